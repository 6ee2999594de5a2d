/- The walk of awake: the chapter's examples hold, and nothing below turns. No condition. -/
import Derived.Test.YthnmdhcgnimdfaaDoorG10
set_option linter.unusedVariables false
set_option linter.unusedSimpArgs false
namespace Go.Proofs.YthnmdhcgnimdfaaDoor
open Go.RowKit
attribute [local go_sem ↓] Go.wp_at_zero Go.wp_at_succ
set_option maxRecDepth 100000 in
set_option maxHeartbeats 2000000 in
theorem awake_any (w : World) : Calls Tryd.prog 7 #[] w fun e w' => e = .returned (.bool true) ∧ Below w.heap.size w w' := by
  go_enter Tryd.func7, Tryd.ntmps7
  go_wp2_with fail
  ((with_reducible refine (of_any ⟨#[42, 47]⟩ false _ (by decide)).mono ?_); rintro e w1 ⟨v1, rfl, hr1, hb1⟩)
  go_wp2_with fail
  ((with_reducible refine (trim_a _ _ hr1).mono ?_); rintro e w2 ⟨rfl, hb2⟩)
  have hB2 := hb1.trans (hb2.mono hb1.size)
  clear hb1 hb2 hr1
  go_wp2_with fail
  ((with_reducible refine (of_any ⟨#[47, 42]⟩ false _ (by decide)).mono ?_); rintro e w3 ⟨v3, rfl, hr3, hb3⟩)
  have hB3 := hB2.trans (hb3.mono hB2.size)
  clear hB2 hb3
  go_wp2_with fail
  ((with_reducible refine (trim_b _ _ hr3).mono ?_); rintro e w4 ⟨rfl, hb4⟩)
  have hB4 := hB3.trans (hb4.mono hB3.size)
  clear hB3 hb4 hr3
  go_wp2_with fail
  ((with_reducible refine (arg_2 _ _ (At.new2 w4 _ _)).mono ?_); rintro e w5 ⟨rfl, hb5⟩)
  have hB5 := (hB4.alloc hB4.size (.cells #[.string ⟨#[97]⟩, .string ⟨#[98]⟩] 9)).trans (hb5.mono (by have := hB4.size; simp; omega))
  clear hB4 hb5
  go_wp2_with fail
  ((with_reducible refine (arg_01 _ _).mono ?_); rintro e w6 ⟨rfl, rfl⟩)
  have hB6 := hB5.alloc hB5.size (.cells #[.string ⟨#[97]⟩] 9)
  clear hB5
  go_wp2_with fail
  ((with_reducible refine (choose_1 _).mono ?_); rintro e w7 ⟨rfl, rfl⟩)
  go_wp2_with fail
  ((with_reducible refine (choose_2 _).mono ?_); rintro e w7 ⟨rfl, rfl⟩)
  go_wp2_with fail
  ((with_reducible refine (choose_3 _).mono ?_); rintro e w7 ⟨rfl, rfl⟩)
  go_wp2_with fail
  have hr8 : Rd ((w5.alloc (.cells #[.string ⟨#[97]⟩] 9)).alloc (.cells #[.string ⟨#[97]⟩, .string ⟨#[98]⟩] 9)) (.slice (some ⟨w5.heap.size + 1, 0, none⟩) 2 2) 2 (strs [⟨#[97]⟩, ⟨#[98]⟩]) := by
    have h := At.new2 (w5.alloc (.cells #[.string ⟨#[97]⟩] 9)) ⟨#[97]⟩ ⟨#[98]⟩
    have e : (w5.alloc (.cells #[.string ⟨#[97]⟩] 9)).heap.size = w5.heap.size + 1 := by simp
    rw [e] at h; exact h
  ((with_reducible refine (pjoin_ab _ _ hr8).mono ?_); rintro e w8 ⟨rfl, hb8⟩)
  have hB8 := (hB6.alloc hB6.size (.cells #[.string ⟨#[97]⟩, .string ⟨#[98]⟩] 9)).trans (hb8.mono (by have := hB6.size; simp; simp at this; omega))
  clear hB6 hb8
  go_wp2_with fail
  go_ret
  exact ⟨rfl, hB8⟩
end Go.Proofs.YthnmdhcgnimdfaaDoor
