/- The walk of ParamsTrims: it returns true at every input. No condition but that lengths fit an int. -/
import Derived.Test.YthnmdhcgnimdfaaDoorG24
import Derived.Test.YthnmdhcgnimdfaaDoorAwk
set_option linter.unusedVariables false
set_option linter.unusedSimpArgs false
namespace Go.Proofs.YthnmdhcgnimdfaaDoor
open Go.RowKit
attribute [local go_sem ↓] Go.wp_at_zero Go.wp_at_succ
/-- the text of Trim's result and its kind -/
def trimR (op : Int) (S : List UInt8) (t : List Ch) (n : Nat) : ByteArray × Int :=
  if op < 6 ∨ 9 < op then (⟨#[]⟩, 1) else if 4096 < n then (⟨#[]⟩, 21) else (⟨(trimL op S t).toArray⟩, 0)
theorem trim_all (op : Int) (s : ByteArray) (v : Value) (t : List Ch) (w : World) (h : Rd w v t.length (chs t)) (ht : t.length ≤ 10000) (hs9 : s.size ≤ 9223372036854775807) (r : ByteArray) (f : Int) (hr : trimR op s.data.toList t s.size = (r, f)) :
    Calls Tryd.prog 8 #[.int .i64 op, .string s, v] w fun e w' => e = .returned (.tuple #[.string r, .int .i64 f]) ∧ Below w.heap.size w w' := by
  unfold trimR at hr
  by_cases h1 : op < 6 ∨ 9 < op
  · rw [if_pos h1] at hr; cases hr
    exact (trim_arg op s v w h1).mono fun e w' ⟨h1, h2⟩ => ⟨h1, h2 ▸ Below.refl _ _⟩
  rw [if_neg h1] at hr
  by_cases h2 : 4096 < s.size
  · rw [if_pos h2] at hr; cases hr
    exact (trim_big op s v w (by omega) (by omega) h2 hs9).mono fun e w' ⟨h1, h2⟩ => ⟨h1, h2 ▸ Below.refl _ _⟩
  rw [if_neg h2] at hr; cases hr
  exact trim_any op s v t w h ht (by omega) (by omega) (by omega)
theorem reftrim_all (op : Int) (s : ByteArray) (v : Value) (t : List Ch) (w : World) (h : Rd w v t.length (chs t)) (ht : t.length ≤ 10000) (hs9 : s.size ≤ 9223372036854775807) (r : ByteArray) (f : Int) (hr : trimR op s.data.toList t s.size = (r, f)) :
    Calls Tryd.prog 9 #[.int .i64 op, .string s, v] w fun e w' => e = .returned (.tuple #[.string r, .int .i64 f]) ∧ Below w.heap.size w w' := by
  unfold trimR at hr
  by_cases h1 : op < 6 ∨ 9 < op
  · rw [if_pos h1] at hr; cases hr
    exact (reftrim_arg op s v w h1).mono fun e w' ⟨h1, h2⟩ => ⟨h1, h2 ▸ Below.refl _ _⟩
  rw [if_neg h1] at hr
  by_cases h2 : 4096 < s.size
  · rw [if_pos h2] at hr; cases hr
    exact (reftrim_big op s v w (by omega) (by omega) h2 hs9).mono fun e w' ⟨h1, h2⟩ => ⟨h1, h2 ▸ Below.refl _ _⟩
  rw [if_neg h2] at hr; cases hr
  by_cases h7 : op ≤ 7
  · exact reftrim_head op s v t w h ht (by omega) (by omega)
  · exact reftrim_tail op s v t w h ht (by omega) (by omega)
set_option maxRecDepth 100000 in
set_option maxHeartbeats 4000000 in
theorem trims_any (op : Int) (s : ByteArray) (v : Value) (t : List Ch) (w : World) (h : Rd w v t.length (chs t)) (hs9 : s.size ≤ 9223372036854775807) (ht9 : t.length ≤ 9223372036854775807) :
    Calls Tryd.prog 3 #[.int .i64 op, .string s, v] w fun e w' => e = .returned (.bool true) ∧ Below w.heap.size w w' := by
  obtain ⟨A, cap, rfl, _, _⟩ := h.open_
  have HR := hid h
  clear h
  obtain ⟨⟨r, f⟩, hr⟩ : ∃ x, trimR op s.data.toList t s.size = x := ⟨_, rfl⟩
  have HRR := hid hr
  clear hr
  have hgo : (100 < s.size ∧ s.size ≤ 4096) ∨ 5000 < s.size ∨ (s.size ≤ 5000 ∧ ¬ (100 < s.size ∧ s.size ≤ 4096)) := by omega
  rcases hgo with ⟨h1, h2⟩ | h1 | ⟨h1, h2⟩
  · go_enter Tryd.func3, Tryd.ntmps3
    go_wp2_with (go_at_call 7; refine (awake_any _).mono ?_; rintro e w1 ⟨rfl, hb1⟩)
    go_ret
    exact ⟨rfl, hb1⟩
  · have d2 : decide ((100 : Int) < (s.size : Int)) = true := by simp; omega
    have d3 : decide ((s.size : Int) ≤ 4096) = false := by simp; omega
    go_enter Tryd.func3, Tryd.ntmps3
    go_wp2_with (go_at_call 7; refine (awake_any _).mono ?_; rintro e w1 ⟨rfl, hb1⟩)
    go_ret
    exact ⟨rfl, hb1⟩
  · have d1 : decide ((5000 : Int) < (s.size : Int)) = false := by simp; omega
    have d2 : (decide ((100 : Int) < (s.size : Int)) = false) ∨ (decide ((100 : Int) < (s.size : Int)) = true ∧ decide ((s.size : Int) ≤ 4096) = false) := by
      by_cases h : 100 < s.size
      · right; exact ⟨by simp; omega, by simp; omega⟩
      · left; simp; omega
    clear h2
    by_cases h3 : 60 < t.length
    · rcases d2 with d2 | ⟨d2, d3⟩
      all_goals
        go_enter Tryd.func3, Tryd.ntmps3
        go_wp2_with (go_at_call 7; refine (awake_any _).mono ?_; rintro e w1 ⟨rfl, hb1⟩)
        go_ret
        exact ⟨rfl, hb1⟩
    · have d4 : decide ((60 : Int) < (t.length : Int)) = false := by simp; omega
      rcases d2 with d2 | ⟨d2, d3⟩
      all_goals
        go_enter Tryd.func3, Tryd.ntmps3
        go_wp2_with fail
        ((with_reducible refine (trim_all op s _ t _ HR.out (by omega) hs9 r f HRR.out).mono ?_); rintro e w1 ⟨rfl, hb1⟩)
        go_wp2_with fail
        ((with_reducible refine (text_any _ t _ (HR.out.below hb1) (by omega)).mono ?_); rintro e w2 ⟨v2, rfl, hr2, hb2⟩)
        have hB2 := hb1.trans (hb2.mono hb1.size)
        have HR2 := hid hr2
        clear hb1 hb2 hr2
        go_wp2_with fail
        ((with_reducible refine (reftrim_all op s _ t _ HR2.out (by omega) hs9 r f HRR.out).mono ?_); rintro e w3 ⟨rfl, hb3⟩)
        have hB3 := hB2.trans (hb3.mono hB2.size)
        clear hB2 hb3
        go_wp2_with fail
        ((with_reducible refine (awake_any _).mono ?_); rintro e w4 ⟨rfl, hb4⟩)
        have hB4 := hB3.trans (hb4.mono hB3.size)
        go_wp2_with fail
        go_ret
        exact ⟨rfl, hB4⟩
end Go.Proofs.YthnmdhcgnimdfaaDoor
