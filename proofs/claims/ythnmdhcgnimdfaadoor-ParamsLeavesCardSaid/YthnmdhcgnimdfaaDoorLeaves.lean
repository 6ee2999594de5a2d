/- The walk of ParamsLeaves: it returns true at every input, wherever the chapter's examples do. No condition but that lengths fit an int. -/
import Derived.Test.YthnmdhcgnimdfaaDoorLea
import Derived.IntWalk
set_option linter.unusedVariables false
set_option linter.unusedSimpArgs false
namespace Go.Proofs.YthnmdhcgnimdfaaDoor
open Go.RowKit
attribute [local go_sem ↓] Go.wp_at_zero Go.wp_at_succ
/-- the four texts, as far as they are there -/
def strK (R : Nat → ByteArray) (k j : Nat) : Value := if j < k then .string (R j) else .string ⟨#[]⟩
theorem trim_one (op : Int) (s : ByteArray) (v : Value) (t : List Ch) (w : World) (h : Rd w v t.length (chs t)) (ht : t.length ≤ 10000) (hs : s.size ≤ 4096) (h6 : 6 ≤ op) (h9 : op ≤ 9) (r : ByteArray) (hr : (⟨(trimL op s.data.toList t).toArray⟩ : ByteArray) = r) :
    Calls Tryd.prog 8 #[.int .i64 op, .string s, v] w fun e w' => e = .returned (.tuple #[.string r, .int .i64 0]) ∧ Below w.heap.size w w' := by
  rw [← hr]; exact trim_any op s v t w h ht hs h6 h9
set_option maxRecDepth 100000 in
set_option maxHeartbeats 4000000 in
theorem leaves_any (haw : ∀ w, Calls Tryd.prog 7 #[] w fun e w' => e = .returned (.bool true) ∧ Below w.heap.size w w') (s : ByteArray) (v : Value) (t : List Ch) (s2 : ByteArray) (w : World) (h : Rd w v t.length (chs t))
    (hs9 : s.size ≤ 9223372036854775807) (ht9 : t.length ≤ 9223372036854775807) (hu9 : s2.size ≤ 9223372036854775807) :
    Calls Tryd.prog 4 #[.string s, v, .string s2] w fun e w' => e = .returned (.bool true) ∧ Below w.heap.size w w' := by
  obtain ⟨A, cap, rfl, _, _⟩ := h.open_
  have HR := hid h
  clear h
  by_cases h1 : 100 < s.size
  · go_enter Tryd.func4, Tryd.ntmps4
    go_wp2_with (go_at_call 7; refine (haw _).mono ?_; rintro e w1 ⟨rfl, hb1⟩)
    go_ret
    exact ⟨rfl, hb1⟩
  by_cases h2 : 60 < t.length
  · go_enter Tryd.func4, Tryd.ntmps4
    go_wp2_with (go_at_call 7; refine (haw _).mono ?_; rintro e w1 ⟨rfl, hb1⟩)
    go_ret
    exact ⟨rfl, hb1⟩
  by_cases h3 : 100 < s2.size
  · go_enter Tryd.func4, Tryd.ntmps4
    go_wp2_with (go_at_call 7; refine (haw _).mono ?_; rintro e w1 ⟨rfl, hb1⟩)
    go_ret
    exact ⟨rfl, hb1⟩
  have d1 : decide ((100 : Int) < (s.size : Int)) = false := by simp; omega
  have d2 : decide ((60 : Int) < (t.length : Int)) = false := by simp; omega
  have d3 : decide ((100 : Int) < (s2.size : Int)) = false := by simp; omega
  obtain ⟨k0, hk0, he0, hq0⟩ := left_head 6 s t (by decide)
  obtain ⟨k1, hk1, he1, hq1⟩ := left_head 7 s t (by decide)
  obtain ⟨k2, hk2, he2, hq2⟩ := left_tail 8 s t (by decide)
  obtain ⟨k3, hk3, he3, hq3⟩ := left_tail 9 s t (by decide)
  have h01 : k0 ≤ k1 := by
    have := best_mono (hd (compile t) s.data.toList) (s.data.toList.length + 1)
    rw [show ((6 : Int) == 7) = false from rfl] at hq0
    rw [show ((7 : Int) == 7) = true from rfl] at hq1
    omega
  have h32 : k3 ≤ k2 := by
    have := best_mono (tl (compile t) s.data.toList) (s.data.toList.length + 1)
    rw [show ((8 : Int) == 9) = false from rfl] at hq2
    rw [show ((9 : Int) == 9) = true from rfl] at hq3
    omega
  clear hq0 hq1 hq2 hq3
  have hz0 : (s.extract k0 s.size).size = s.size - k0 := by simp
  have hz1 : (s.extract k1 s.size).size = s.size - k1 := by simp
  have hz2 : (s.extract 0 k2).size = k2 := by simp; omega
  have hz3 : (s.extract 0 k3).size = k3 := by simp; omega
  have hsl0 : ∀ w, (Instr.slice 9 (.string s) (some (.int .i64 (k0 : Int))) none none).run Tryd.prog w = .ok (.string (s.extract k0 s.size)) w := fun w => by go_simp
  have hsl1 : ∀ w, (Instr.slice 9 (.string s) (some (.int .i64 (k1 : Int))) none none).run Tryd.prog w = .ok (.string (s.extract k1 s.size)) w := fun w => by go_simp
  have hsl2 : ∀ w, (Instr.slice 9 (.string s) none (some (.int .i64 (k2 : Int))) none).run Tryd.prog w = .ok (.string (s.extract 0 k2)) w := fun w => by go_simp
  have hsl3 : ∀ w, (Instr.slice 9 (.string s) none (some (.int .i64 (k3 : Int))) none).run Tryd.prog w = .ok (.string (s.extract 0 k3)) w := fun w => by go_simp
  generalize s.extract k0 s.size = e0 at *
  generalize s.extract k1 s.size = e1 at *
  generalize s.extract 0 k2 = e2 at *
  generalize s.extract 0 k3 = e3 at *
  obtain ⟨n0, hn0⟩ : ∃ n0 : Nat, n0 = s.size - k0 := ⟨_, rfl⟩
  obtain ⟨n1, hn1⟩ : ∃ n1 : Nat, n1 = s.size - k1 := ⟨_, rfl⟩
  rw [← hn0] at hz0
  rw [← hn1] at hz1
  have hsub0 : (s.size : Int) - (n0 : Int) = (k0 : Int) := by omega
  have hsub1 : (s.size : Int) - (n1 : Int) = (k1 : Int) := by omega
  have hn01 : n1 ≤ n0 := by omega
  have he0 := hid he0
  have he1 := hid he1
  have he2 := hid he2
  have he3 := hid he3
  have hn0' : n0 ≤ s.size := by omega
  have hn1' : n1 ≤ s.size := by omega
  clear hn0 hn1
  have kB := Bk.new w 31 #[.string ⟨#[]⟩, .string ⟨#[]⟩, .string ⟨#[]⟩, .string ⟨#[]⟩]
  have hb0 := (Below.refl w.heap.size w).alloc (Nat.le_refl _) (.cells #[.string ⟨#[]⟩, .string ⟨#[]⟩, .string ⟨#[]⟩, .string ⟨#[]⟩] 31)
  go_enter Tryd.func4, Tryd.ntmps4
  go_wp2_with fail
  go_loopw [8] (fun i wr => ∃ k : Nat, k ≤ 4 ∧ i = .int .i64 k ∧ ((k = 0 → Bk wr w.heap.size 31 #[.string ⟨#[]⟩, .string ⟨#[]⟩, .string ⟨#[]⟩, .string ⟨#[]⟩]) ∧ (k = 1 → Bk wr w.heap.size 31 #[.string e0, .string ⟨#[]⟩, .string ⟨#[]⟩, .string ⟨#[]⟩]) ∧ (k = 2 → Bk wr w.heap.size 31 #[.string e0, .string e1, .string ⟨#[]⟩, .string ⟨#[]⟩]) ∧ (k = 3 → Bk wr w.heap.size 31 #[.string e0, .string e1, .string e2, .string ⟨#[]⟩]) ∧ (k = 4 → Bk wr w.heap.size 31 #[.string e0, .string e1, .string e2, .string e3])) ∧ Below w.heap.size w wr) (fun i _ => 4 - (intOf i).toNat)
  case atStart => exact ⟨0, by omega, rfl, ⟨fun _ => kB, fun h => by omega, fun h => by omega, fun h => by omega, fun h => by omega⟩, hb0⟩
  case round =>
    clear kB hb0
    obtain ⟨k, hk, rfl, hbk, hb⟩ := hrel
    have hkc : k = 0 ∨ k = 1 ∨ k = 2 ∨ k = 3 ∨ k = 4 := by omega
    rcases hkc with rfl | rfl | rfl | rfl | rfl
    · have kk : Bk wr w.heap.size 31 #[.string ⟨#[]⟩, .string ⟨#[]⟩, .string ⟨#[]⟩, .string ⟨#[]⟩] := hbk.1 rfl
      obtain ⟨q0, q1, q2, q3⟩ := kk.cells4
      obtain ⟨f0, f1, f2, f3⟩ := kk.free4
      have hle : e0.size ≤ s.size := by rw [hz0]; omega
      clear hbk
      go_wp2_with fail
      ((with_reducible refine (trim_one 6 s _ t _ (HR.out.below hb) (by omega) (by omega) (by decide) (by decide) e0 he0.out).mono ?_); rintro e w1 ⟨rfl, hb1⟩)
      have hbF := hb.trans (hb1.mono hb.size)
      have kk := kk.below hb1 kk.lt
      have klt := kk.lt
      obtain ⟨q0, q1, q2, q3⟩ := kk.cells4
      obtain ⟨f0, f1, f2, f3⟩ := kk.free4
      have kF : Bk (w1.setCell ⟨w.heap.size, 0, none⟩ (.string e0)) w.heap.size 31 #[.string e0, .string ⟨#[]⟩, .string ⟨#[]⟩, .string ⟨#[]⟩] := kk.set_ 0 _
      have hbF := hbF.setCell (p := ⟨w.heap.size, 0, none⟩) (Nat.le_refl _) (.string e0)
      clear hb1 hb kk
      go_wp2_with fail
      go_roundw
      case rel => exact ⟨1, by omega, rfl, ⟨fun h => by omega, fun _ => kF, fun h => by omega, fun h => by omega, fun h => by omega⟩, hbF⟩
      case measure => simp [intOf]
    · have kk : Bk wr w.heap.size 31 #[.string e0, .string ⟨#[]⟩, .string ⟨#[]⟩, .string ⟨#[]⟩] := hbk.2.1 rfl
      obtain ⟨q0, q1, q2, q3⟩ := kk.cells4
      obtain ⟨f0, f1, f2, f3⟩ := kk.free4
      have hle : e1.size ≤ s.size := by rw [hz1]; omega
      clear hbk
      go_wp2_with fail
      ((with_reducible refine (trim_one 7 s _ t _ (HR.out.below hb) (by omega) (by omega) (by decide) (by decide) e1 he1.out).mono ?_); rintro e w1 ⟨rfl, hb1⟩)
      have hbF := hb.trans (hb1.mono hb.size)
      have kk := kk.below hb1 kk.lt
      have klt := kk.lt
      obtain ⟨q0, q1, q2, q3⟩ := kk.cells4
      obtain ⟨f0, f1, f2, f3⟩ := kk.free4
      have kF : Bk (w1.setCell ⟨w.heap.size, 1, none⟩ (.string e1)) w.heap.size 31 #[.string e0, .string e1, .string ⟨#[]⟩, .string ⟨#[]⟩] := kk.set_ 1 _
      have hbF := hbF.setCell (p := ⟨w.heap.size, 1, none⟩) (Nat.le_refl _) (.string e1)
      clear hb1 hb kk
      go_wp2_with fail
      go_roundw
      case rel => exact ⟨2, by omega, rfl, ⟨fun h => by omega, fun h => by omega, fun _ => kF, fun h => by omega, fun h => by omega⟩, hbF⟩
      case measure => simp [intOf]
    · have kk : Bk wr w.heap.size 31 #[.string e0, .string e1, .string ⟨#[]⟩, .string ⟨#[]⟩] := hbk.2.2.1 rfl
      obtain ⟨q0, q1, q2, q3⟩ := kk.cells4
      obtain ⟨f0, f1, f2, f3⟩ := kk.free4
      have hle : e2.size ≤ s.size := by rw [hz2]; omega
      clear hbk
      go_wp2_with fail
      ((with_reducible refine (trim_one 8 s _ t _ (HR.out.below hb) (by omega) (by omega) (by decide) (by decide) e2 he2.out).mono ?_); rintro e w1 ⟨rfl, hb1⟩)
      have hbF := hb.trans (hb1.mono hb.size)
      have kk := kk.below hb1 kk.lt
      have klt := kk.lt
      obtain ⟨q0, q1, q2, q3⟩ := kk.cells4
      obtain ⟨f0, f1, f2, f3⟩ := kk.free4
      have kF : Bk (w1.setCell ⟨w.heap.size, 2, none⟩ (.string e2)) w.heap.size 31 #[.string e0, .string e1, .string e2, .string ⟨#[]⟩] := kk.set_ 2 _
      have hbF := hbF.setCell (p := ⟨w.heap.size, 2, none⟩) (Nat.le_refl _) (.string e2)
      clear hb1 hb kk
      go_wp2_with fail
      go_roundw
      case rel => exact ⟨3, by omega, rfl, ⟨fun h => by omega, fun h => by omega, fun h => by omega, fun _ => kF, fun h => by omega⟩, hbF⟩
      case measure => simp [intOf]
    · have kk : Bk wr w.heap.size 31 #[.string e0, .string e1, .string e2, .string ⟨#[]⟩] := hbk.2.2.2.1 rfl
      obtain ⟨q0, q1, q2, q3⟩ := kk.cells4
      obtain ⟨f0, f1, f2, f3⟩ := kk.free4
      have hle : e3.size ≤ s.size := by rw [hz3]; omega
      clear hbk
      go_wp2_with fail
      ((with_reducible refine (trim_one 9 s _ t _ (HR.out.below hb) (by omega) (by omega) (by decide) (by decide) e3 he3.out).mono ?_); rintro e w1 ⟨rfl, hb1⟩)
      have hbF := hb.trans (hb1.mono hb.size)
      have kk := kk.below hb1 kk.lt
      have klt := kk.lt
      obtain ⟨q0, q1, q2, q3⟩ := kk.cells4
      obtain ⟨f0, f1, f2, f3⟩ := kk.free4
      have kF : Bk (w1.setCell ⟨w.heap.size, 3, none⟩ (.string e3)) w.heap.size 31 #[.string e0, .string e1, .string e2, .string e3] := kk.set_ 3 _
      have hbF := hbF.setCell (p := ⟨w.heap.size, 3, none⟩) (Nat.le_refl _) (.string e3)
      clear hb1 hb kk
      go_wp2_with fail
      go_roundw
      case rel => exact ⟨4, by omega, rfl, ⟨fun h => by omega, fun h => by omega, fun h => by omega, fun h => by omega, fun _ => kF⟩, hbF⟩
      case measure => simp [intOf]
    · have kk : Bk wr w.heap.size 31 #[.string e0, .string e1, .string e2, .string e3] := hbk.2.2.2.2 rfl
      obtain ⟨q0, q1, q2, q3⟩ := kk.cells4
      clear hbk
      go_wp2_with fail
      refine wp_region_held_drew (S := fun w' => w'.cell? ⟨w.heap.size, 0, none⟩ = some (.string e0) ∧ w'.cell? ⟨w.heap.size, 1, none⟩ = some (.string e1) ∧ w'.cell? ⟨w.heap.size, 2, none⟩ = some (.string e2) ∧ w'.cell? ⟨w.heap.size, 3, none⟩ = some (.string e3)) (by kernel_rfl) ⟨q0, q1, q2, q3⟩ (fun hHeld => ?_)
      clear q0 q1 q2 q3
      have hw0 : IntKind.i64.wrap (k0 : Int) = (k0 : Int) := IntWalk.i64_in _ (by omega)
      have hw1 : IntKind.i64.wrap (k1 : Int) = (k1 : Int) := IntWalk.i64_in _ (by omega)
      refine takeYes (i := 0) (v := .string s) rfl (by kernel_rfl) (by kernel_rfl) (by kernel_rfl) (fun _ _ _ h => h) (by rfl) ?_ (by assumption) ?_
      · intro w' hSw; obtain ⟨q0, q1, q2, q3⟩ := hSw; go_simp
      try simp only [Act.put, List.setIfInBounds_toArray, List.set_cons_zero, List.set_cons_succ]
      refine takeYes (i := 1) (v := .int .i64 (s.size : Int)) rfl (by kernel_rfl) (by kernel_rfl) (by kernel_rfl) (fun _ _ _ h => h) (by rfl) ?_ (by assumption) ?_
      · intro w' hSw; obtain ⟨q0, q1, q2, q3⟩ := hSw; go_simp
      try simp only [Act.put, List.setIfInBounds_toArray, List.set_cons_zero, List.set_cons_succ]
      refine takeYes (i := 2) (v := .pointer (some ⟨w.heap.size, 0, none⟩)) rfl (by kernel_rfl) (by kernel_rfl) (by kernel_rfl) (fun _ _ _ h => h) (by rfl) ?_ (by assumption) ?_
      · intro w' hSw; obtain ⟨q0, q1, q2, q3⟩ := hSw; go_simp
      try simp only [Act.put, List.setIfInBounds_toArray, List.set_cons_zero, List.set_cons_succ]
      refine takeYes (i := 3) (v := .string e0) rfl (by kernel_rfl) (by kernel_rfl) (by kernel_rfl) (fun _ _ _ h => h) (by rfl) ?_ (by assumption) ?_
      · intro w' hSw; obtain ⟨q0, q1, q2, q3⟩ := hSw; go_simp
      try simp only [Act.put, List.setIfInBounds_toArray, List.set_cons_zero, List.set_cons_succ]
      refine takeYes (i := 4) (v := .int .i64 (n0 : Int)) rfl (by kernel_rfl) (by kernel_rfl) (by kernel_rfl) (fun _ _ _ h => h) (by rfl) ?_ (by assumption) ?_
      · intro w' hSw; obtain ⟨q0, q1, q2, q3⟩ := hSw; go_simp
      try simp only [Act.put, List.setIfInBounds_toArray, List.set_cons_zero, List.set_cons_succ]
      refine takeYes (i := 5) (v := .int .i64 (k0 : Int)) rfl (by kernel_rfl) (by kernel_rfl) (by kernel_rfl) (fun _ _ _ h => h) (by rfl) ?_ (by assumption) ?_
      · intro w' hSw; obtain ⟨q0, q1, q2, q3⟩ := hSw; go_simp
      try simp only [Act.put, List.setIfInBounds_toArray, List.set_cons_zero, List.set_cons_succ]
      refine takeYes (i := 6) (v := .string e0) rfl (by kernel_rfl) (by kernel_rfl) (by kernel_rfl) (fun _ _ _ h => h) (by rfl) ?_ (by assumption) ?_
      · intro w' hSw; obtain ⟨q0, q1, q2, q3⟩ := hSw; go_simp
      try simp only [Act.put, List.setIfInBounds_toArray, List.set_cons_zero, List.set_cons_succ]
      refine takeYes (i := 7) (v := .pointer (some ⟨w.heap.size, 0, none⟩)) rfl (by kernel_rfl) (by kernel_rfl) (by kernel_rfl) (fun _ _ _ h => h) (by rfl) ?_ (by assumption) ?_
      · intro w' hSw; obtain ⟨q0, q1, q2, q3⟩ := hSw; go_simp
      try simp only [Act.put, List.setIfInBounds_toArray, List.set_cons_zero, List.set_cons_succ]
      refine takeYes (i := 8) (v := .string e0) rfl (by kernel_rfl) (by kernel_rfl) (by kernel_rfl) (fun _ _ _ h => h) (by rfl) ?_ (by assumption) ?_
      · intro w' hSw; obtain ⟨q0, q1, q2, q3⟩ := hSw; go_simp
      try simp only [Act.put, List.setIfInBounds_toArray, List.set_cons_zero, List.set_cons_succ]
      refine takeYes (i := 9) (v := .bool false) rfl (by kernel_rfl) (by kernel_rfl) (by kernel_rfl) (fun _ _ _ h => h) (by rfl) ?_ (by assumption) ?_
      · intro w' hSw; obtain ⟨q0, q1, q2, q3⟩ := hSw; go_simp
      try simp only [Act.put, List.setIfInBounds_toArray, List.set_cons_zero, List.set_cons_succ]
      refine takeYes (i := 10) (v := .bool false) rfl (by kernel_rfl) (by kernel_rfl) (by kernel_rfl) (fun _ _ _ h => h) (by rfl) ?_ (by assumption) ?_
      · intro w' hSw; obtain ⟨q0, q1, q2, q3⟩ := hSw; go_simp
      try simp only [Act.put, List.setIfInBounds_toArray, List.set_cons_zero, List.set_cons_succ]
      refine takeYes (i := 11) (v := .string s) rfl (by kernel_rfl) (by kernel_rfl) (by kernel_rfl) (fun _ _ _ h => h) (by rfl) ?_ (by assumption) ?_
      · intro w' hSw; obtain ⟨q0, q1, q2, q3⟩ := hSw; go_simp
      try simp only [Act.put, List.setIfInBounds_toArray, List.set_cons_zero, List.set_cons_succ]
      refine takeYes (i := 12) (v := .int .i64 (s.size : Int)) rfl (by kernel_rfl) (by kernel_rfl) (by kernel_rfl) (fun _ _ _ h => h) (by rfl) ?_ (by assumption) ?_
      · intro w' hSw; obtain ⟨q0, q1, q2, q3⟩ := hSw; go_simp
      try simp only [Act.put, List.setIfInBounds_toArray, List.set_cons_zero, List.set_cons_succ]
      refine takeYes (i := 13) (v := .pointer (some ⟨w.heap.size, 1, none⟩)) rfl (by kernel_rfl) (by kernel_rfl) (by kernel_rfl) (fun _ _ _ h => h) (by rfl) ?_ (by assumption) ?_
      · intro w' hSw; obtain ⟨q0, q1, q2, q3⟩ := hSw; go_simp
      try simp only [Act.put, List.setIfInBounds_toArray, List.set_cons_zero, List.set_cons_succ]
      refine takeYes (i := 14) (v := .string e1) rfl (by kernel_rfl) (by kernel_rfl) (by kernel_rfl) (fun _ _ _ h => h) (by rfl) ?_ (by assumption) ?_
      · intro w' hSw; obtain ⟨q0, q1, q2, q3⟩ := hSw; go_simp
      try simp only [Act.put, List.setIfInBounds_toArray, List.set_cons_zero, List.set_cons_succ]
      refine takeYes (i := 15) (v := .int .i64 (n1 : Int)) rfl (by kernel_rfl) (by kernel_rfl) (by kernel_rfl) (fun _ _ _ h => h) (by rfl) ?_ (by assumption) ?_
      · intro w' hSw; obtain ⟨q0, q1, q2, q3⟩ := hSw; go_simp
      try simp only [Act.put, List.setIfInBounds_toArray, List.set_cons_zero, List.set_cons_succ]
      refine takeYes (i := 16) (v := .int .i64 (k1 : Int)) rfl (by kernel_rfl) (by kernel_rfl) (by kernel_rfl) (fun _ _ _ h => h) (by rfl) ?_ (by assumption) ?_
      · intro w' hSw; obtain ⟨q0, q1, q2, q3⟩ := hSw; go_simp
      try simp only [Act.put, List.setIfInBounds_toArray, List.set_cons_zero, List.set_cons_succ]
      refine takeYes (i := 17) (v := .string e1) rfl (by kernel_rfl) (by kernel_rfl) (by kernel_rfl) (fun _ _ _ h => h) (by rfl) ?_ (by assumption) ?_
      · intro w' hSw; obtain ⟨q0, q1, q2, q3⟩ := hSw; go_simp
      try simp only [Act.put, List.setIfInBounds_toArray, List.set_cons_zero, List.set_cons_succ]
      refine takeYes (i := 18) (v := .pointer (some ⟨w.heap.size, 1, none⟩)) rfl (by kernel_rfl) (by kernel_rfl) (by kernel_rfl) (fun _ _ _ h => h) (by rfl) ?_ (by assumption) ?_
      · intro w' hSw; obtain ⟨q0, q1, q2, q3⟩ := hSw; go_simp
      try simp only [Act.put, List.setIfInBounds_toArray, List.set_cons_zero, List.set_cons_succ]
      refine takeYes (i := 19) (v := .string e1) rfl (by kernel_rfl) (by kernel_rfl) (by kernel_rfl) (fun _ _ _ h => h) (by rfl) ?_ (by assumption) ?_
      · intro w' hSw; obtain ⟨q0, q1, q2, q3⟩ := hSw; go_simp
      try simp only [Act.put, List.setIfInBounds_toArray, List.set_cons_zero, List.set_cons_succ]
      refine takeYes (i := 20) (v := .bool false) rfl (by kernel_rfl) (by kernel_rfl) (by kernel_rfl) (fun _ _ _ h => h) (by rfl) ?_ (by assumption) ?_
      · intro w' hSw; obtain ⟨q0, q1, q2, q3⟩ := hSw; go_simp
      try simp only [Act.put, List.setIfInBounds_toArray, List.set_cons_zero, List.set_cons_succ]
      refine takeYes (i := 21) (v := .bool false) rfl (by kernel_rfl) (by kernel_rfl) (by kernel_rfl) (fun _ _ _ h => h) (by rfl) ?_ (by assumption) ?_
      · intro w' hSw; obtain ⟨q0, q1, q2, q3⟩ := hSw; go_simp
      try simp only [Act.put, List.setIfInBounds_toArray, List.set_cons_zero, List.set_cons_succ]
      refine takeYes (i := 22) (v := .bool false) rfl (by kernel_rfl) (by kernel_rfl) (by kernel_rfl) (fun _ _ _ h => h) (by rfl) ?_ (by assumption) ?_
      · intro w' hSw; obtain ⟨q0, q1, q2, q3⟩ := hSw; go_simp
      try simp only [Act.put, List.setIfInBounds_toArray, List.set_cons_zero, List.set_cons_succ]
      refine takeYes (i := 23) (v := .string s) rfl (by kernel_rfl) (by kernel_rfl) (by kernel_rfl) (fun _ _ _ h => h) (by rfl) ?_ (by assumption) ?_
      · intro w' hSw; obtain ⟨q0, q1, q2, q3⟩ := hSw; go_simp
      try simp only [Act.put, List.setIfInBounds_toArray, List.set_cons_zero, List.set_cons_succ]
      refine takeYes (i := 24) (v := .pointer (some ⟨w.heap.size, 2, none⟩)) rfl (by kernel_rfl) (by kernel_rfl) (by kernel_rfl) (fun _ _ _ h => h) (by rfl) ?_ (by assumption) ?_
      · intro w' hSw; obtain ⟨q0, q1, q2, q3⟩ := hSw; go_simp
      try simp only [Act.put, List.setIfInBounds_toArray, List.set_cons_zero, List.set_cons_succ]
      refine takeYes (i := 25) (v := .string e2) rfl (by kernel_rfl) (by kernel_rfl) (by kernel_rfl) (fun _ _ _ h => h) (by rfl) ?_ (by assumption) ?_
      · intro w' hSw; obtain ⟨q0, q1, q2, q3⟩ := hSw; go_simp
      try simp only [Act.put, List.setIfInBounds_toArray, List.set_cons_zero, List.set_cons_succ]
      refine takeYes (i := 26) (v := .int .i64 (k2 : Int)) rfl (by kernel_rfl) (by kernel_rfl) (by kernel_rfl) (fun _ _ _ h => h) (by rfl) ?_ (by assumption) ?_
      · intro w' hSw; obtain ⟨q0, q1, q2, q3⟩ := hSw; go_simp
      try simp only [Act.put, List.setIfInBounds_toArray, List.set_cons_zero, List.set_cons_succ]
      refine takeYes (i := 27) (v := .string e2) rfl (by kernel_rfl) (by kernel_rfl) (by kernel_rfl) (fun _ _ _ h => h) (by rfl) ?_ (by assumption) ?_
      · intro w' hSw; obtain ⟨q0, q1, q2, q3⟩ := hSw; go_simp
      try simp only [Act.put, List.setIfInBounds_toArray, List.set_cons_zero, List.set_cons_succ]
      refine takeYes (i := 28) (v := .pointer (some ⟨w.heap.size, 2, none⟩)) rfl (by kernel_rfl) (by kernel_rfl) (by kernel_rfl) (fun _ _ _ h => h) (by rfl) ?_ (by assumption) ?_
      · intro w' hSw; obtain ⟨q0, q1, q2, q3⟩ := hSw; go_simp
      try simp only [Act.put, List.setIfInBounds_toArray, List.set_cons_zero, List.set_cons_succ]
      refine takeYes (i := 29) (v := .string e2) rfl (by kernel_rfl) (by kernel_rfl) (by kernel_rfl) (fun _ _ _ h => h) (by rfl) ?_ (by assumption) ?_
      · intro w' hSw; obtain ⟨q0, q1, q2, q3⟩ := hSw; go_simp
      try simp only [Act.put, List.setIfInBounds_toArray, List.set_cons_zero, List.set_cons_succ]
      refine takeYes (i := 30) (v := .bool false) rfl (by kernel_rfl) (by kernel_rfl) (by kernel_rfl) (fun _ _ _ h => h) (by rfl) ?_ (by assumption) ?_
      · intro w' hSw; obtain ⟨q0, q1, q2, q3⟩ := hSw; go_simp
      try simp only [Act.put, List.setIfInBounds_toArray, List.set_cons_zero, List.set_cons_succ]
      refine takeYes (i := 31) (v := .bool false) rfl (by kernel_rfl) (by kernel_rfl) (by kernel_rfl) (fun _ _ _ h => h) (by rfl) ?_ (by assumption) ?_
      · intro w' hSw; obtain ⟨q0, q1, q2, q3⟩ := hSw; go_simp
      try simp only [Act.put, List.setIfInBounds_toArray, List.set_cons_zero, List.set_cons_succ]
      refine takeYes (i := 32) (v := .bool false) rfl (by kernel_rfl) (by kernel_rfl) (by kernel_rfl) (fun _ _ _ h => h) (by rfl) ?_ (by assumption) ?_
      · intro w' hSw; obtain ⟨q0, q1, q2, q3⟩ := hSw; go_simp
      try simp only [Act.put, List.setIfInBounds_toArray, List.set_cons_zero, List.set_cons_succ]
      refine takeYes (i := 33) (v := .string s) rfl (by kernel_rfl) (by kernel_rfl) (by kernel_rfl) (fun _ _ _ h => h) (by rfl) ?_ (by assumption) ?_
      · intro w' hSw; obtain ⟨q0, q1, q2, q3⟩ := hSw; go_simp
      try simp only [Act.put, List.setIfInBounds_toArray, List.set_cons_zero, List.set_cons_succ]
      refine takeYes (i := 34) (v := .pointer (some ⟨w.heap.size, 3, none⟩)) rfl (by kernel_rfl) (by kernel_rfl) (by kernel_rfl) (fun _ _ _ h => h) (by rfl) ?_ (by assumption) ?_
      · intro w' hSw; obtain ⟨q0, q1, q2, q3⟩ := hSw; go_simp
      try simp only [Act.put, List.setIfInBounds_toArray, List.set_cons_zero, List.set_cons_succ]
      refine takeYes (i := 35) (v := .string e3) rfl (by kernel_rfl) (by kernel_rfl) (by kernel_rfl) (fun _ _ _ h => h) (by rfl) ?_ (by assumption) ?_
      · intro w' hSw; obtain ⟨q0, q1, q2, q3⟩ := hSw; go_simp
      try simp only [Act.put, List.setIfInBounds_toArray, List.set_cons_zero, List.set_cons_succ]
      refine takeYes (i := 36) (v := .int .i64 (k3 : Int)) rfl (by kernel_rfl) (by kernel_rfl) (by kernel_rfl) (fun _ _ _ h => h) (by rfl) ?_ (by assumption) ?_
      · intro w' hSw; obtain ⟨q0, q1, q2, q3⟩ := hSw; go_simp
      try simp only [Act.put, List.setIfInBounds_toArray, List.set_cons_zero, List.set_cons_succ]
      refine takeYes (i := 37) (v := .string e3) rfl (by kernel_rfl) (by kernel_rfl) (by kernel_rfl) (fun _ _ _ h => h) (by rfl) ?_ (by assumption) ?_
      · intro w' hSw; obtain ⟨q0, q1, q2, q3⟩ := hSw; go_simp
      try simp only [Act.put, List.setIfInBounds_toArray, List.set_cons_zero, List.set_cons_succ]
      refine takeYes (i := 38) (v := .pointer (some ⟨w.heap.size, 3, none⟩)) rfl (by kernel_rfl) (by kernel_rfl) (by kernel_rfl) (fun _ _ _ h => h) (by rfl) ?_ (by assumption) ?_
      · intro w' hSw; obtain ⟨q0, q1, q2, q3⟩ := hSw; go_simp
      try simp only [Act.put, List.setIfInBounds_toArray, List.set_cons_zero, List.set_cons_succ]
      refine takeYes (i := 39) (v := .string e3) rfl (by kernel_rfl) (by kernel_rfl) (by kernel_rfl) (fun _ _ _ h => h) (by rfl) ?_ (by assumption) ?_
      · intro w' hSw; obtain ⟨q0, q1, q2, q3⟩ := hSw; go_simp
      try simp only [Act.put, List.setIfInBounds_toArray, List.set_cons_zero, List.set_cons_succ]
      refine takeYes (i := 40) (v := .bool false) rfl (by kernel_rfl) (by kernel_rfl) (by kernel_rfl) (fun _ _ _ h => h) (by rfl) ?_ (by assumption) ?_
      · intro w' hSw; obtain ⟨q0, q1, q2, q3⟩ := hSw; go_simp
      try simp only [Act.put, List.setIfInBounds_toArray, List.set_cons_zero, List.set_cons_succ]
      refine takeYes (i := 41) (v := .bool false) rfl (by kernel_rfl) (by kernel_rfl) (by kernel_rfl) (fun _ _ _ h => h) (by rfl) ?_ (by assumption) ?_
      · intro w' hSw; obtain ⟨q0, q1, q2, q3⟩ := hSw; go_simp
      try simp only [Act.put, List.setIfInBounds_toArray, List.set_cons_zero, List.set_cons_succ]
      refine takeYes (i := 42) (v := .bool false) rfl (by kernel_rfl) (by kernel_rfl) (by kernel_rfl) (fun _ _ _ h => h) (by rfl) ?_ (by assumption) ?_
      · intro w' hSw; obtain ⟨q0, q1, q2, q3⟩ := hSw; go_simp
      try simp only [Act.put, List.setIfInBounds_toArray, List.set_cons_zero, List.set_cons_succ]
      refine takeYes (i := 43) (v := .pointer (some ⟨w.heap.size, 1, none⟩)) rfl (by kernel_rfl) (by kernel_rfl) (by kernel_rfl) (fun _ _ _ h => h) (by rfl) ?_ (by assumption) ?_
      · intro w' hSw; obtain ⟨q0, q1, q2, q3⟩ := hSw; go_simp
      try simp only [Act.put, List.setIfInBounds_toArray, List.set_cons_zero, List.set_cons_succ]
      refine takeYes (i := 44) (v := .string e1) rfl (by kernel_rfl) (by kernel_rfl) (by kernel_rfl) (fun _ _ _ h => h) (by rfl) ?_ (by assumption) ?_
      · intro w' hSw; obtain ⟨q0, q1, q2, q3⟩ := hSw; go_simp
      try simp only [Act.put, List.setIfInBounds_toArray, List.set_cons_zero, List.set_cons_succ]
      refine takeYes (i := 45) (v := .int .i64 (n1 : Int)) rfl (by kernel_rfl) (by kernel_rfl) (by kernel_rfl) (fun _ _ _ h => h) (by rfl) ?_ (by assumption) ?_
      · intro w' hSw; obtain ⟨q0, q1, q2, q3⟩ := hSw; go_simp
      try simp only [Act.put, List.setIfInBounds_toArray, List.set_cons_zero, List.set_cons_succ]
      refine takeYes (i := 46) (v := .pointer (some ⟨w.heap.size, 0, none⟩)) rfl (by kernel_rfl) (by kernel_rfl) (by kernel_rfl) (fun _ _ _ h => h) (by rfl) ?_ (by assumption) ?_
      · intro w' hSw; obtain ⟨q0, q1, q2, q3⟩ := hSw; go_simp
      try simp only [Act.put, List.setIfInBounds_toArray, List.set_cons_zero, List.set_cons_succ]
      refine takeYes (i := 47) (v := .string e0) rfl (by kernel_rfl) (by kernel_rfl) (by kernel_rfl) (fun _ _ _ h => h) (by rfl) ?_ (by assumption) ?_
      · intro w' hSw; obtain ⟨q0, q1, q2, q3⟩ := hSw; go_simp
      try simp only [Act.put, List.setIfInBounds_toArray, List.set_cons_zero, List.set_cons_succ]
      refine takeYes (i := 48) (v := .int .i64 (n0 : Int)) rfl (by kernel_rfl) (by kernel_rfl) (by kernel_rfl) (fun _ _ _ h => h) (by rfl) ?_ (by assumption) ?_
      · intro w' hSw; obtain ⟨q0, q1, q2, q3⟩ := hSw; go_simp
      try simp only [Act.put, List.setIfInBounds_toArray, List.set_cons_zero, List.set_cons_succ]
      refine takeYes (i := 49) (v := .bool false) rfl (by kernel_rfl) (by kernel_rfl) (by kernel_rfl) (fun _ _ _ h => h) (by rfl) ?_ (by assumption) ?_
      · intro w' hSw; obtain ⟨q0, q1, q2, q3⟩ := hSw; go_simp
      try simp only [Act.put, List.setIfInBounds_toArray, List.set_cons_zero, List.set_cons_succ]
      refine takeYes (i := 50) (v := .bool false) rfl (by kernel_rfl) (by kernel_rfl) (by kernel_rfl) (fun _ _ _ h => h) (by rfl) ?_ (by assumption) ?_
      · intro w' hSw; obtain ⟨q0, q1, q2, q3⟩ := hSw; go_simp
      try simp only [Act.put, List.setIfInBounds_toArray, List.set_cons_zero, List.set_cons_succ]
      refine takeYes (i := 51) (v := .bool false) rfl (by kernel_rfl) (by kernel_rfl) (by kernel_rfl) (fun _ _ _ h => h) (by rfl) ?_ (by assumption) ?_
      · intro w' hSw; obtain ⟨q0, q1, q2, q3⟩ := hSw; go_simp
      try simp only [Act.put, List.setIfInBounds_toArray, List.set_cons_zero, List.set_cons_succ]
      refine takeYes (i := 52) (v := .pointer (some ⟨w.heap.size, 3, none⟩)) rfl (by kernel_rfl) (by kernel_rfl) (by kernel_rfl) (fun _ _ _ h => h) (by rfl) ?_ (by assumption) ?_
      · intro w' hSw; obtain ⟨q0, q1, q2, q3⟩ := hSw; go_simp
      try simp only [Act.put, List.setIfInBounds_toArray, List.set_cons_zero, List.set_cons_succ]
      refine takeYes (i := 53) (v := .string e3) rfl (by kernel_rfl) (by kernel_rfl) (by kernel_rfl) (fun _ _ _ h => h) (by rfl) ?_ (by assumption) ?_
      · intro w' hSw; obtain ⟨q0, q1, q2, q3⟩ := hSw; go_simp
      try simp only [Act.put, List.setIfInBounds_toArray, List.set_cons_zero, List.set_cons_succ]
      refine takeYes (i := 54) (v := .int .i64 (k3 : Int)) rfl (by kernel_rfl) (by kernel_rfl) (by kernel_rfl) (fun _ _ _ h => h) (by rfl) ?_ (by assumption) ?_
      · intro w' hSw; obtain ⟨q0, q1, q2, q3⟩ := hSw; go_simp
      try simp only [Act.put, List.setIfInBounds_toArray, List.set_cons_zero, List.set_cons_succ]
      refine takeYes (i := 55) (v := .pointer (some ⟨w.heap.size, 2, none⟩)) rfl (by kernel_rfl) (by kernel_rfl) (by kernel_rfl) (fun _ _ _ h => h) (by rfl) ?_ (by assumption) ?_
      · intro w' hSw; obtain ⟨q0, q1, q2, q3⟩ := hSw; go_simp
      try simp only [Act.put, List.setIfInBounds_toArray, List.set_cons_zero, List.set_cons_succ]
      refine takeYes (i := 56) (v := .string e2) rfl (by kernel_rfl) (by kernel_rfl) (by kernel_rfl) (fun _ _ _ h => h) (by rfl) ?_ (by assumption) ?_
      · intro w' hSw; obtain ⟨q0, q1, q2, q3⟩ := hSw; go_simp
      try simp only [Act.put, List.setIfInBounds_toArray, List.set_cons_zero, List.set_cons_succ]
      refine takeYes (i := 57) (v := .int .i64 (k2 : Int)) rfl (by kernel_rfl) (by kernel_rfl) (by kernel_rfl) (fun _ _ _ h => h) (by rfl) ?_ (by assumption) ?_
      · intro w' hSw; obtain ⟨q0, q1, q2, q3⟩ := hSw; go_simp
      try simp only [Act.put, List.setIfInBounds_toArray, List.set_cons_zero, List.set_cons_succ]
      refine takeYes (i := 58) (v := .bool false) rfl (by kernel_rfl) (by kernel_rfl) (by kernel_rfl) (fun _ _ _ h => h) (by rfl) ?_ (by assumption) ?_
      · intro w' hSw; obtain ⟨q0, q1, q2, q3⟩ := hSw; go_simp
      try simp only [Act.put, List.setIfInBounds_toArray, List.set_cons_zero, List.set_cons_succ]
      refine takeYes (i := 59) (v := .bool false) rfl (by kernel_rfl) (by kernel_rfl) (by kernel_rfl) (fun _ _ _ h => h) (by rfl) ?_ (by assumption) ?_
      · intro w' hSw; obtain ⟨q0, q1, q2, q3⟩ := hSw; go_simp
      try simp only [Act.put, List.setIfInBounds_toArray, List.set_cons_zero, List.set_cons_succ]
      refine wpAnyH_done (by kernel_rfl) ?_ _
      have hbq := hb.drew
      clear hb kk hw0 hw1 hsl0 hsl1 hsl2 hsl3 he0 he1 he2 he3
      go_wp2_with fail
      ((with_reducible refine (of_any s2 true _ (by omega)).mono ?_); rintro e w1 ⟨vm, rfl, hrm, hb1⟩)
      have hB1 := hbq.trans (hb1.mono hbq.size)
      have hml : (mk true s2.data.toList).length ≤ 10000 := by simp [mk]; omega
      have hcs : (s2 ++ s).size ≤ 4096 := by rw [ByteArray.size_append]; omega
      have hth : (⟨(trimL 6 (s2 ++ s).data.toList (mk true s2.data.toList)).toArray⟩ : ByteArray) = s := by
        rw [ByteArray.data_append, Array.toList_append, trim_head_mk]
      clear hb1 hbq
      go_wp2_with fail
      ((with_reducible refine (trim_one 6 (s2 ++ s) _ (mk true s2.data.toList) _ hrm hml hcs (by decide) (by decide) s hth).mono ?_); rintro e w2 ⟨rfl, hb2⟩)
      have hB2 := hB1.trans (hb2.mono hB1.size)
      clear hb2 hB1 hrm
      go_wp2_with fail
      ((with_reducible refine (of_any s2 true _ (by omega)).mono ?_); rintro e w3 ⟨vm3, rfl, hrm3, hb3⟩)
      have hB3 := hB2.trans (hb3.mono hB2.size)
      have hcs2 : (s ++ s2).size ≤ 4096 := by rw [ByteArray.size_append]; omega
      have hth2 : (⟨(trimL 9 (s ++ s2).data.toList (mk true s2.data.toList)).toArray⟩ : ByteArray) = s := by
        rw [ByteArray.data_append, Array.toList_append, trim_tails_mk]
      clear hb3 hB2
      go_wp2_with fail
      ((with_reducible refine (trim_one 9 (s ++ s2) _ (mk true s2.data.toList) _ hrm3 hml hcs2 (by decide) (by decide) s hth2).mono ?_); rintro e w4 ⟨rfl, hb4⟩)
      have hB4 := hB3.trans (hb4.mono hB3.size)
      clear hb4 hB3 hrm3 hth hth2 hcs hcs2
      go_wp2_with (go_at_call 7; refine (haw _).mono ?_; rintro e w5 ⟨rfl, hb5⟩)
      go_ret
      exact ⟨rfl, hB4.trans (hb5.mono hB4.size)⟩
end Go.Proofs.YthnmdhcgnimdfaaDoor
