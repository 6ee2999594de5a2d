/- The walk of ParamsArgs: it returns true at every input where the variable ErrRange holds an interface value. No condition but that lengths fit an int. -/
import Derived.Test.YthnmdhcgnimdfaaDoorG13
import Derived.Test.YthnmdhcgnimdfaaDoorAwk
set_option linter.unusedVariables false
set_option linter.unusedSimpArgs false
namespace Go.Proofs.YthnmdhcgnimdfaaDoor
open Go.RowKit
attribute [local go_sem ↓] Go.wp_at_zero Go.wp_at_succ
theorem argRes_form (l : List ByteArray) (nm : List UInt8) : ∃ (a : ByteArray) (b : Bool) (c : Int), argRes l nm = .tuple #[.string a, .bool b, .int .i64 c] := by
  unfold argRes
  split
  · exact ⟨_, _, _, rfl⟩
  · split <;> exact ⟨_, _, _, rfl⟩
theorem reftext_any (n : Nat) (w : World) (h : n < 100) : Calls Tryd.prog 18 #[.int .i64 (n : Int)] w fun e w' => e = .returned (.string ⟨(Lib.decDigits n).toArray⟩) ∧ Below w.heap.size w w' := by
  by_cases h1 : n < 10
  · exact reftext_1 n w h1
  · exact reftext_2 n w (by omega) h
set_option maxRecDepth 100000 in
set_option maxHeartbeats 2000000 in
theorem args_any (va : Value) (l : List ByteArray) (s : ByteArray) (set : Bool) (w : World) (h : Rd w va l.length (strs l)) (hl9 : l.length ≤ 9223372036854775807) (hls : ∀ x ∈ l, x.size ≤ 9223372036854775807) (hs9 : s.size ≤ 9223372036854775807)
    (tp : TypeId) (pv : Value) (hER : w.cell? ⟨1, 0, none⟩ = some (.iface tp pv)) :
    Calls Tryd.prog 5 #[va, .string s, .bool set] w fun e w' => e = .returned (.bool true) ∧ Below w.heap.size w w' := by
  have HR := hid h
  obtain ⟨A, cap, rfl, _, _⟩ := h.open_
  clear h
  have HER := hid hER
  clear hER
  cases hf : fewB l with
  | false =>
    have HF := hid hf
    clear hf
    go_enter Tryd.func5, Tryd.ntmps5
    go_wp2_with fail
    ((with_reducible refine (few_any _ l _ HR.out hl9 hls).mono ?_); rintro e w1 ⟨rfl, rfl⟩)
    rw [HF.out]
    go_wp2_with fail
    ((with_reducible refine (awake_any _).mono ?_); rintro e w2 ⟨rfl, hb⟩)
    go_wp2_with fail
    go_ret
    exact ⟨rfl, hb⟩
  | true =>
    have HF := hid hf
    have hfw : l.length ≤ 30 ∧ ∀ x ∈ l, x.size ≤ 100 := by
      simp only [fewB, Bool.and_eq_true, decide_eq_true_eq, List.all_eq_true] at hf
      exact ⟨hf.1, hf.2⟩
    obtain ⟨hl, hsz⟩ := hfw
    clear hf
    by_cases h100 : 100 < s.size
    · clear hsz
      go_enter Tryd.func5, Tryd.ntmps5
      go_wp2_with fail
      ((with_reducible refine (few_any _ l _ HR.out hl9 hls).mono ?_); rintro e w1 ⟨rfl, rfl⟩)
      rw [HF.out]
      go_wp2_with fail
      ((with_reducible refine (awake_any _).mono ?_); rintro e w2 ⟨rfl, hb⟩)
      go_wp2_with fail
      go_ret
      exact ⟨rfl, hb⟩
    · have d1 : decide ((100 : Int) < (s.size : Int)) = false := by simp; omega
      have HSZ := hid hsz
      have HLS := hid hls
      have hpl := sepOf_len s set
      have hjl := jn_len l (sepOf s set).data.toList hsz hpl l.length (Nat.le_refl _)
      rw [List.take_length] at hjl
      clear hsz hls
      obtain ⟨ra, rb, rc, hres⟩ := argRes_form l s.data.toList
      have HRES := hid hres
      clear hres
      go_enter Tryd.func5, Tryd.ntmps5
      go_wp2_with fail
      ((with_reducible refine (few_any _ l _ HR.out hl9 HLS.out).mono ?_); rintro e w1 ⟨rfl, rfl⟩)
      rw [HF.out]
      go_wp2_with fail
      ((with_reducible refine (arg_any _ l s _ HR.out (by omega) (by omega) tp pv HER.out).mono ?_); rintro e w1 ⟨rfl, hb1⟩)
      rw [HRES.out]
      go_wp2_with fail
      ((with_reducible refine (refarg_any _ l s _ (HR.out.below hb1) (by omega) (by omega)).mono ?_); rintro e w2 ⟨rfl, rfl⟩)
      rw [HRES.out]
      go_wp2_with fail
      ((with_reducible refine (pjoin_any _ l s set _ (HR.out.below hb1) (by omega) (by unfold jn at hjl; omega) (by omega)).mono ?_); rintro e w3 ⟨rfl, hb3⟩)
      have hB3 := hb1.trans (hb3.mono hb1.size)
      clear hb1 hb3
      go_wp2_with fail
      ((with_reducible refine (refjoin_any _ l s set _ (HR.out.below hB3) hl HSZ.out (by omega)).mono ?_); rintro e w4 ⟨rfl, rfl⟩)
      have HJ := hid (show Lib.join (l.map (·.data.toList)) (sepOf s set).data.toList = jn l (sepOf s set).data.toList from rfl)
      rw [HJ.out]
      generalize jn l (sepOf s set).data.toList = J at *
      go_wp2_with fail
      ((with_reducible refine (status_any l.length _ (by omega)).mono ?_); rintro e w5 ⟨rfl, rfl⟩)
      go_wp2_with fail
      ((with_reducible refine (reftext_any l.length _ (by omega)).mono ?_); rintro e w6 ⟨rfl, hb6⟩)
      have hB6 := hB3.trans (hb6.mono hB3.size)
      clear hB3 hb6
      generalize Lib.decDigits l.length = D at *
      go_wp2_with fail
      ((with_reducible refine (awake_any _).mono ?_); rintro e w7 ⟨rfl, hb7⟩)
      have hB7 := hB6.trans (hb7.mono hB6.size)
      clear hB6 hb7
      go_wp2_with fail
      go_ret
      exact ⟨rfl, hB7⟩
end Go.Proofs.YthnmdhcgnimdfaaDoor
