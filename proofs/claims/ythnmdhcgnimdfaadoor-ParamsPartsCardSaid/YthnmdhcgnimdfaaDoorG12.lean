/- The walks of params.Status and whelkref03.Text at numbers below a hundred, and of whelkref15.Join. -/
import Derived.Test.YthnmdhcgnimdfaaDoorG11
import Derived.IntWalk
set_option linter.unusedVariables false
set_option linter.unusedSimpArgs false
namespace Go.Proofs.YthnmdhcgnimdfaaDoor
open Go.RowKit
attribute [local go_sem ↓] Go.wp_at_zero Go.wp_at_succ
theorem dec1 (n : Nat) (h : n < 10) : Lib.decDigits n = [UInt8.ofNat (48 + n)] := by rw [Lib.decDigits, dif_pos h]
theorem dec2 (n : Nat) (h : 10 ≤ n) : Lib.decDigits n = Lib.decDigits (n / 10) ++ [UInt8.ofNat (48 + n % 10)] := by rw [Lib.decDigits, dif_neg (by omega)]
set_option maxHeartbeats 400000 in
theorem status_any (n : Nat) (w : World) (h : n < 100) : Calls Tryd.prog 17 #[.int .i64 (n : Int)] w fun e w' => e = .returned (.string ⟨(Lib.decDigits n).toArray⟩) ∧ w = w' := by
  go_enter Tryd.func17, Tryd.ntmps17
  go_wp2_with fail
  ((with_reducible refine (Tryd.strconv_Itoa_small n h _).mono ?_); rintro e w1 ⟨rfl, rfl⟩)
  go_wp2_with fail
  go_ret
  exact ⟨rfl, rfl⟩
theorem u8w (n : Nat) (h : n < 10) : IntKind.u8.wrap (48 + (n : Int)) = ((UInt8.ofNat (48 + n)).toNat : Int) := by
  rw [UInt8.toNat_ofNat_of_lt' (by show 48 + n < 256; omega)]
  simp [IntKind.wrap, IntKind.signed, IntKind.bits]; omega
theorem str_app (a b : List UInt8) : (⟨a.toArray⟩ : ByteArray) ++ ⟨b.toArray⟩ = ⟨(a ++ b).toArray⟩ := by apply ByteArray.ext; simp [ByteArray.data_append]
theorem one_byte (w : World) (g : Nat) (c : UInt8) (h : w.cell? ⟨g, 0, none⟩ = some (.int .u8 (c.toNat : Int))) :
    (convert 42 9 (.slice (some ⟨g, 0, none⟩) 1 1)).run Tryd.prog w = .ok (.string ⟨#[c]⟩) w :=
  run_convert_bytes_back (P := Tryd.prog) w 42 9 5 ⟨g, 0, none⟩ 1 [c] Tryd.underlying42 Tryd.underlying5 Tryd.underlying9 (fun j hj => by
    have : j = 0 := by simpa using hj
    subst this
    rw [Addr.add_lit]; exact h)
set_option maxHeartbeats 800000 in
theorem reftext_1 (n : Nat) (w : World) (h : n < 10) : Calls Tryd.prog 18 #[.int .i64 (n : Int)] w fun e w' => e = .returned (.string ⟨(Lib.decDigits n).toArray⟩) ∧ Below w.heap.size w w' := by
  rw [dec1 n h]
  have hw := u8w n h
  have hn0 : decide ((n : Int) < 0) = false := by simp
  have hn1 : decide ((n : Int) < 10) = true := by simp; omega
  have hcv := one_byte (w.alloc (.cells #[.int .u8 ((UInt8.ofNat (48 + n)).toNat : Int)] 5)) w.heap.size (UInt8.ofNat (48 + n)) (by simp)
  generalize UInt8.ofNat (48 + n) = c at *
  go_enter Tryd.func18, Tryd.ntmps18
  go_wp2_with fail
  go_ret
  exact ⟨rfl, (Below.refl _ _).alloc (Nat.le_refl _) _⟩
set_option maxRecDepth 100000 in
set_option maxHeartbeats 2000000 in
theorem reftext_2 (n : Nat) (w : World) (h : 10 ≤ n) (h2 : n < 100) : Calls Tryd.prog 18 #[.int .i64 (n : Int)] w fun e w' => e = .returned (.string ⟨(Lib.decDigits n).toArray⟩) ∧ Below w.heap.size w w' := by
  rw [dec2 n h]
  have hn0 : decide ((n : Int) < 0) = false := by simp
  have hn1 : decide ((n : Int) < 10) = false := by simp; omega
  have hq : Int.tdiv (n : Int) 10 = ((n / 10 : Nat) : Int) := by rw [Int.tdiv_eq_ediv_of_nonneg (by omega)]; omega
  have hr : Int.tmod (n : Int) 10 = ((n % 10 : Nat) : Int) := by rw [Int.tmod_eq_emod_of_nonneg (by omega)]; omega
  have hq' : (n : Int) / 10 = ((n / 10 : Nat) : Int) := by omega
  have hr' : (n : Int) % 10 = ((n % 10 : Nat) : Int) := by omega
  have hq10 : n / 10 < 10 := by omega
  have hm10 : n % 10 < 10 := by omega
  have hw := u8w (n % 10) hm10
  generalize n / 10 = q at *
  generalize n % 10 = m at *
  generalize UInt8.ofNat (48 + m) = c at *
  have hs : IntKind.i64.wrap (48 + (m : Int)) = 48 + (m : Int) := IntWalk.i64_in _ (by omega)
  have hs2 : IntKind.i64.wrap (q : Int) = (q : Int) := IntWalk.i64_in _ (by omega)
  have hs3 : IntKind.i64.wrap (m : Int) = (m : Int) := IntWalk.i64_in _ (by omega)
  have HT : ∀ w : World, Calls Tryd.prog 18 #[.int .i64 (q : Int)] w fun e w' => e = .returned (.string ⟨(Lib.decDigits q).toArray⟩) ∧ Below w.heap.size w w' := fun w => reftext_1 q w hq10
  have hlen : (Lib.decDigits q).length ≤ 100 := by rw [dec1 q hq10]; simp
  generalize Lib.decDigits q = D at *
  have hlen2 : D.length ≤ 9223372036854775806 := by omega
  go_enter Tryd.func18, Tryd.ntmps18
  go_wp2_with fail
  refine wp_region_held_drew (S := fun _ => True) (by kernel_rfl) trivial (fun hHeld => ?_)
  refine takeYes (i := 0) (v := .int .i64 (n : Int)) rfl (by kernel_rfl) (by kernel_rfl) (by kernel_rfl) (fun _ _ _ h => h) (by rfl) ?_ trivial ?_
  · intro w' hSw; go_simp
  try simp only [Act.put, List.setIfInBounds_toArray, List.set_cons_zero, List.set_cons_succ]
  refine takeYes (i := 1) (v := .int .i64 (q : Int)) rfl (by kernel_rfl) (by kernel_rfl) (by kernel_rfl) (fun _ _ _ h => h) (by rfl) ?_ trivial ?_
  · intro w' hSw; go_simp
  try simp only [Act.put, List.setIfInBounds_toArray, List.set_cons_zero, List.set_cons_succ]
  refine takeYes (i := 3) (v := .int .i64 (n : Int)) rfl (by kernel_rfl) (by kernel_rfl) (by kernel_rfl) (fun _ _ _ h => h) (by rfl) ?_ trivial ?_
  · intro w' hSw; go_simp
  try simp only [Act.put, List.setIfInBounds_toArray, List.set_cons_zero, List.set_cons_succ]
  refine takeYes (i := 4) (v := .int .i64 (m : Int)) rfl (by kernel_rfl) (by kernel_rfl) (by kernel_rfl) (fun _ _ _ h => h) (by rfl) ?_ trivial ?_
  · intro w' hSw; go_simp
  try simp only [Act.put, List.setIfInBounds_toArray, List.set_cons_zero, List.set_cons_succ]
  refine takeYes (i := 5) (v := .int .i64 (48 + (m : Int))) rfl (by kernel_rfl) (by kernel_rfl) (by kernel_rfl) (fun _ _ _ h => h) (by rfl) ?_ trivial ?_
  · intro w' hSw; go_simp
  try simp only [Act.put, List.setIfInBounds_toArray, List.set_cons_zero, List.set_cons_succ]
  refine takeYes (i := 6) (v := .int .u8 (c.toNat : Int)) rfl (by kernel_rfl) (by kernel_rfl) (by kernel_rfl) (fun _ _ _ h => h) (by rfl) ?_ trivial ?_
  · intro w' hSw; go_simp
  try simp only [Act.put, List.setIfInBounds_toArray, List.set_cons_zero, List.set_cons_succ]
  refine wpAnyH_ready (rs := [2, 7]) (by kernel_rfl) (by simp) ?_
  refine AllReadyH.cons rfl (fun K hK => ?_) ?_
  · go_simp
    ((with_reducible refine (HT _).mono ?_); rintro e wx ⟨rfl, hbx⟩)
    go_wp2_with fail
    refine hK.out _ _ trivial (fun hHeld => ?_)
    clear hK K
    try simp only [Act.put, List.setIfInBounds_toArray, List.set_cons_zero, List.set_cons_succ]
    have hcv := one_byte (wx.alloc (.cells #[.int .u8 (c.toNat : Int)] 5)) wx.heap.size c (by simp)
    have hb1 := (Below.refl w.heap.size w).drew.trans (hbx.mono (by simp))
    have hbF := hb1.alloc hb1.size (.cells #[.int .u8 (c.toNat : Int)] 5)
    refine wpAnyH_ready (rs := [7]) (by kernel_rfl) (by simp) ?_
    refine AllReadyH.cons rfl (fun K hK => ?_) AllReadyH.nil
    go_simp
    refine hK.out _ _ trivial (fun hHeld => ?_)
    clear hK K
    try simp only [Act.put, List.setIfInBounds_toArray, List.set_cons_zero, List.set_cons_succ]
    refine wpAnyH_ready (rs := [8]) (by kernel_rfl) (by simp) ?_
    refine AllReadyH.cons rfl (fun K hK => ?_) AllReadyH.nil
    go_simp
    refine hK.out _ _ trivial (fun hHeld => ?_)
    clear hK K
    try simp only [Act.put, List.setIfInBounds_toArray, List.set_cons_zero, List.set_cons_succ]
    refine takeYes (i := 9) (v := .string (⟨D.toArray⟩ ++ ⟨#[c]⟩)) rfl (by kernel_rfl) (by kernel_rfl) (by kernel_rfl) (fun _ _ _ h => h) (by rfl) ?_ trivial ?_
    · intro w' hSw; go_simp
    try simp only [Act.put, List.setIfInBounds_toArray, List.set_cons_zero, List.set_cons_succ]
    refine takeYes (i := 10) (v := .string (⟨D.toArray⟩ ++ ⟨#[c]⟩)) rfl (by kernel_rfl) (by kernel_rfl) (by kernel_rfl) (fun _ _ _ h => h) (by rfl) ?_ trivial ?_
    · intro w' hSw; go_simp
    try simp only [Act.put, List.setIfInBounds_toArray, List.set_cons_zero, List.set_cons_succ]
    refine wpAnyH_done (by kernel_rfl) ?_ _
    go_wp2_with fail
    go_ret
    exact ⟨ret_val (by rw [str_app]; rfl), hbF⟩
  refine AllReadyH.cons rfl (fun K hK => ?_) AllReadyH.nil
  go_simp
  refine hK.out _ _ trivial (fun hHeld => ?_)
  clear hK K
  try simp only [Act.put, List.setIfInBounds_toArray, List.set_cons_zero, List.set_cons_succ]
  have hcell : (w.drew.alloc (.cells #[.int .u8 (c.toNat : Int)] 5)).cell? ⟨w.heap.size, 0, none⟩ = some (.int .u8 (c.toNat : Int)) := (At.new w.drew #[.int .u8 (c.toNat : Int)] 5) 0 _ rfl
  have hb0 := (Below.refl w.heap.size w).drew.alloc (Nat.le_refl _) (.cells #[.int .u8 (c.toNat : Int)] 5)
  refine wpAnyH_ready (rs := [2, 8]) (by kernel_rfl) (by simp) ?_
  refine AllReadyH.cons rfl (fun K hK => ?_) ?_
  · go_simp
    ((with_reducible refine (HT _).mono ?_); rintro e wx ⟨rfl, hbx⟩)
    go_wp2_with fail
    refine hK.out _ _ trivial (fun hHeld => ?_)
    clear hK K
    try simp only [Act.put, List.setIfInBounds_toArray, List.set_cons_zero, List.set_cons_succ]
    have hcv := one_byte wx w.heap.size c (bel_cell hbx hcell)
    have hbF := hb0.trans (hbx.mono (by simp))
    refine wpAnyH_ready (rs := [8]) (by kernel_rfl) (by simp) ?_
    refine AllReadyH.cons rfl (fun K hK => ?_) AllReadyH.nil
    go_simp
    refine hK.out _ _ trivial (fun hHeld => ?_)
    clear hK K
    try simp only [Act.put, List.setIfInBounds_toArray, List.set_cons_zero, List.set_cons_succ]
    refine takeYes (i := 9) (v := .string (⟨D.toArray⟩ ++ ⟨#[c]⟩)) rfl (by kernel_rfl) (by kernel_rfl) (by kernel_rfl) (fun _ _ _ h => h) (by rfl) ?_ trivial ?_
    · intro w' hSw; go_simp
    try simp only [Act.put, List.setIfInBounds_toArray, List.set_cons_zero, List.set_cons_succ]
    refine takeYes (i := 10) (v := .string (⟨D.toArray⟩ ++ ⟨#[c]⟩)) rfl (by kernel_rfl) (by kernel_rfl) (by kernel_rfl) (fun _ _ _ h => h) (by rfl) ?_ trivial ?_
    · intro w' hSw; go_simp
    try simp only [Act.put, List.setIfInBounds_toArray, List.set_cons_zero, List.set_cons_succ]
    refine wpAnyH_done (by kernel_rfl) ?_ _
    go_wp2_with fail
    go_ret
    exact ⟨ret_val (by rw [str_app]; rfl), hbF⟩
  · refine AllReadyH.cons rfl (fun K hK => ?_) AllReadyH.nil
    have hcv := one_byte (w.alloc (.cells #[.int .u8 (c.toNat : Int)] 5)).drew w.heap.size c ((At.new w #[.int .u8 (c.toNat : Int)] 5) 0 _ rfl)
    go_simp
    refine hK.out _ _ trivial (fun hHeld => ?_)
    clear hK K
    try simp only [Act.put, List.setIfInBounds_toArray, List.set_cons_zero, List.set_cons_succ]
    refine wpAnyH_ready (rs := [2]) (by kernel_rfl) (by simp) ?_
    refine AllReadyH.cons rfl (fun K hK => ?_) AllReadyH.nil
    go_simp
    ((with_reducible refine (HT _).mono ?_); rintro e wx ⟨rfl, hbx⟩)
    go_wp2_with fail
    refine hK.out _ _ trivial (fun hHeld => ?_)
    clear hK K
    try simp only [Act.put, List.setIfInBounds_toArray, List.set_cons_zero, List.set_cons_succ]
    have hbF := hb0.trans (hbx.mono (by simp))
    refine takeYes (i := 9) (v := .string (⟨D.toArray⟩ ++ ⟨#[c]⟩)) rfl (by kernel_rfl) (by kernel_rfl) (by kernel_rfl) (fun _ _ _ h => h) (by rfl) ?_ trivial ?_
    · intro w' hSw; go_simp
    try simp only [Act.put, List.setIfInBounds_toArray, List.set_cons_zero, List.set_cons_succ]
    refine takeYes (i := 10) (v := .string (⟨D.toArray⟩ ++ ⟨#[c]⟩)) rfl (by kernel_rfl) (by kernel_rfl) (by kernel_rfl) (fun _ _ _ h => h) (by rfl) ?_ trivial ?_
    · intro w' hSw; go_simp
    try simp only [Act.put, List.setIfInBounds_toArray, List.set_cons_zero, List.set_cons_succ]
    refine wpAnyH_done (by kernel_rfl) ?_ _
    go_wp2_with fail
    go_ret
    exact ⟨ret_val (by rw [str_app]; rfl), hbF⟩
end Go.Proofs.YthnmdhcgnimdfaaDoor
