/- The walk of sums.Show. Expressions of up to a hundred thousand ops, names of up to 4096 bytes. -/
import Derived.Test.YtadmmmehphhecaaGreatDoorLi
import Derived.Test.YtadmmmehphhecaaGreatDoorLj
set_option linter.unusedVariables false
set_option linter.unusedSimpArgs false
namespace Go.Proofs.YtadmmmehphhecaaGreatDoor
open Go.RowKit
/-- what Show answers -/
def showOut (e : Ex) : List UInt8 × Int :=
  if rightF e = false then ([], 1) else if 20 < deepF 20 e then ([], 32) else if 4096 < (showF e).length then ([], 21) else (showF e, 0)
theorem bel_step {w W0 w1 : World} (h : Below w.heap.size w W0) (k : Below W0.heap.size W0 w1) : Below w.heap.size w w1 := h.trans (k.mono h.size)
set_option maxRecDepth 100000 in
set_option maxHeartbeats 2000000 in
theorem Show_any (e : Ex) (w : World) (P : Nat → Prop) (v : Value) (hr : RdX w P e v) (ho : okF e = true) (hs : szF e ≤ 100000) (hL : Laid w) :
    Calls Tryz.prog 12 #[v] w fun x w' => x = .returned (.tuple #[.string ⟨(showOut e).1.toArray⟩, .int .i64 (showOut e).2]) ∧ Below w.heap.size w w' := by
  have HR := hid (right_any e ho hs)
  have HD := hid (deep_any 20 (by omega) e hs)
  obtain ⟨A, cap, rfl, hcap, hkids⟩ := hr.form
  have HX := hid hr
  have HL := hid hL
  have HSA : Hid (rightF e = true → ShowC e) := hid (fun h => show_any e h ho hs)
  have HSL : Hid (rightF e = true → (showF e).length ≤ 1000000000) := hid (fun h => by have := show_len e ho h; omega)
  clear hr hkids hL ho hs hcap
  have kB := Bk.new w 30 #[.string ⟨e.op.toArray⟩, .int .i64 e.num, .string ⟨e.name.toArray⟩, .slice A e.kids.len cap]
  have hB0 : Below w.heap.size w (w.alloc (.cells #[.string ⟨e.op.toArray⟩, .int .i64 e.num, .string ⟨e.name.toArray⟩, .slice A e.kids.len cap] 30)) := (Below.refl _ _).alloc (Nat.le_refl _) _
  go_enter Tryz.func12, Tryz.ntmps12
  go_wp2_with fail
  ((with_reducible refine (HR.out.call _ P _ (HX.out.alloc_ _)).mono ?_); rintro e1 w1 ⟨rfl, hb1⟩)
  obtain ⟨W0, hW0⟩ : ∃ W0, W0 = w.alloc (.cells #[.string ⟨e.op.toArray⟩, .int .i64 e.num, .string ⟨e.name.toArray⟩, .slice A e.kids.len cap] 30) := ⟨_, rfl⟩
  rw [← hW0] at kB hB0 hb1
  clear hW0
  obtain ⟨c0, c1, c2, c3⟩ := kB.cells4
  have c0 := bel_cell hb1 c0
  have c1 := bel_cell hb1 c1
  have c2 := bel_cell hb1 c2
  have c3 := bel_cell hb1 c3
  have HB1 := hid (bel_step hB0 hb1)
  clear kB hB0 hb1
  cases hrt : rightF e
  · have HO : Hid (showOut e = ([], 1)) := hid (by unfold showOut; rw [if_pos hrt])
    clear hrt
    go_wp2_with fail
    go_ret2
    exact ⟨by rw [HO.out]; rfl, HB1.out⟩
  · have HRT := hid hrt
    clear hrt
    go_wp2_with fail
    ((with_reducible refine (HD.out.call _ P _ 20 rfl (HX.out.below HB1.out)).mono ?_); rintro e2 w2 ⟨rfl, hb2⟩)
    have c0 := bel_cell hb2 c0
    have c1 := bel_cell hb2 c1
    have c2 := bel_cell hb2 c2
    have c3 := bel_cell hb2 c3
    have HB2 := hid (bel_step HB1.out hb2)
    clear hb2
    by_cases hd : 20 < deepF 20 e
    · have HO : Hid (showOut e = ([], 32)) := hid (by unfold showOut; rw [if_neg (by rw [HRT.out]; decide), if_pos hd])
      have hdi : (20 : Int) < (deepF 20 e : Int) := by omega
      clear hd
      go_wp2_with fail
      go_ret2
      exact ⟨by rw [HO.out]; rfl, HB2.out⟩
    · have hdi : ¬ (20 : Int) < (deepF 20 e : Int) := by omega
      have HO : Hid (showOut e = if 4096 < (showF e).length then ([], 21) else (showF e, 0)) := hid (by unfold showOut; rw [if_neg (by rw [HRT.out]; decide), if_neg hd])
      clear hd
      go_wp2_with fail
      ((with_reducible refine ((HSA.out HRT.out).call _ P _ (HX.out.below HB2.out) (HL.out.below HB2.out)).mono ?_); rintro e3 w3 ⟨rfl, hb3⟩)
      have HB3 := hid (bel_step HB2.out hb3)
      have hlen := HSL.out HRT.out
      clear hb3 c0 c1 c2 c3
      obtain ⟨D, hD⟩ : ∃ D, D = showF e := ⟨_, rfl⟩
      have HDD := hid hD
      rw [← hD] at hlen ⊢
      clear hD
      by_cases hl : 4096 < D.length
      · have hli : (4096 : Int) < (D.length : Int) := by omega
        have HO2 : Hid (showOut e = ([], 21)) := hid (by rw [HO.out, ← HDD.out, if_pos hl])
        clear hl
        go_wp2_with fail
        go_ret2
        exact ⟨by rw [HO2.out]; rfl, HB3.out⟩
      · have hli : ¬ (4096 : Int) < (D.length : Int) := by omega
        have HO2 : Hid (showOut e = (D, 0)) := hid (by rw [HO.out, ← HDD.out, if_neg hl])
        clear hl
        go_wp2_with fail
        go_ret2
        exact ⟨by rw [HO2.out]; rfl, HB3.out⟩
end Go.Proofs.YtadmmmehphhecaaGreatDoor
