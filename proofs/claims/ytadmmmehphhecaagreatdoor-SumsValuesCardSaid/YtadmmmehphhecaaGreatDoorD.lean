/- The walks of sums.Text and whelkref03.Text. -/
import Derived.Test.YtadmmmehphhecaaGreatDoorV
import Derived.StillTailTactics
import Derived.Deep.RegionHeld3
import Derived.Deep.RegionWith
import Derived.Deep.DeepCutAuto
import Derived.RegionTactic
import Derived.IntWalk
import Derived.Lib.AppendIntMem
set_option linter.unusedVariables false
set_option linter.unusedSimpArgs false
namespace Go.Proofs.YtadmmmehphhecaaGreatDoor
open Go.RowKit
theorem dec1 (n : Nat) (h : n < 10) : Lib.decDigits n = [UInt8.ofNat (48 + n)] := by rw [Lib.decDigits, dif_pos h]
theorem dec2 (n : Nat) (h : 10 ≤ n) : Lib.decDigits n = Lib.decDigits (n / 10) ++ [UInt8.ofNat (48 + n % 10)] := by rw [Lib.decDigits, dif_neg (by omega)]
theorem itoa_pos (n : Nat) : Lib.itoa (n : Int) = Lib.decDigits n := by unfold Lib.itoa; rw [if_neg (by omega)]; rfl
theorem itoa_neg (n : Nat) (h : 0 < n) : Lib.itoa (-(n : Int)) = 45 :: Lib.decDigits n := by unfold Lib.itoa; rw [if_pos (by omega)]; simp
theorem u8w (n : Nat) (h : n < 10) : IntKind.u8.wrap (48 + (n : Int)) = ((UInt8.ofNat (48 + n)).toNat : Int) := by
  rw [UInt8.toNat_ofNat_of_lt' (by show 48 + n < 256; omega)]
  simp [IntKind.wrap, IntKind.signed, IntKind.bits]; omega
theorem one_byte (c : UInt8) : ∀ (W : World) (g : Nat), W.cell? ⟨g, 0, none⟩ = some (.int .u8 (c.toNat : Int)) →
    (convert 64 9 (.slice (some ⟨g, 0, none⟩) 1 1)).run Tryz.prog W = .ok (.string ⟨#[c]⟩) W := fun W g h =>
  run_convert_bytes_back (P := Tryz.prog) W 64 9 5 ⟨g, 0, none⟩ 1 [c] Tryz.underlying64 Tryz.underlying5 Tryz.underlying9 (fun j hj => by
    have : j = 0 := by simpa using hj
    subst this
    rw [Addr.add_lit]; exact h)
theorem str_app (a b : List UInt8) : (⟨a.toArray⟩ : ByteArray) ++ ⟨b.toArray⟩ = ⟨(a ++ b).toArray⟩ := by apply ByteArray.ext; simp [ByteArray.data_append]
theorem dec_len (n : Nat) : (Lib.decDigits n).length ≤ n + 1 := by
  induction n using Nat.strongRecOn with
  | _ n ih =>
    by_cases h : n < 10
    · rw [dec1 n h]; simp
    · rw [dec2 n (by omega), List.length_append]
      have := ih (n / 10) (by omega)
      simp; omega
def RText (n : Int) : Prop := ∀ w : World, Calls Tryz.prog 10 #[.int .i64 n] w fun e w' => e = .returned (.string ⟨(Lib.itoa n).toArray⟩) ∧ Below w.heap.size w w'
theorem RText.call {n : Int} (h : RText n) (w : World) : Calls Tryz.prog 10 #[.int .i64 n] w fun e w' => e = .returned (.string ⟨(Lib.itoa n).toArray⟩) ∧ Below w.heap.size w w' := h w
set_option maxHeartbeats 800000 in
theorem rtext_pos1 (n : Nat) (h : n < 10) : RText (n : Int) := by
  intro w
  rw [itoa_pos, dec1 n h]
  have hw := u8w n h
  have hn0 : decide ((n : Int) < 0) = false := by simp
  have hn1 : decide ((n : Int) < 10) = true := by simp; omega
  have hcv := one_byte (UInt8.ofNat (48 + n)) (w.alloc (.cells #[.int .u8 ((UInt8.ofNat (48 + n)).toNat : Int)] 5)) w.heap.size (by simp)
  generalize UInt8.ofNat (48 + n) = c at *
  go_enter Tryz.func10, Tryz.ntmps10
  go_wp2_with fail
  go_ret
  exact ⟨rfl, (Below.refl _ _).alloc (Nat.le_refl _) _⟩
set_option maxRecDepth 100000 in
set_option maxHeartbeats 2000000 in
theorem rtext_pos2 (n : Nat) (h : 10 ≤ n) (h2 : n ≤ 9223372036854775807) (hT : RText ((n / 10 : Nat) : Int)) : RText (n : Int) := by
  intro w
  have HT := hid hT
  rw [itoa_pos, dec2 n h]
  have hdd := itoa_pos (n / 10)
  clear hT
  have hn0 : decide ((n : Int) < 0) = false := by simp
  have hn1 : decide ((n : Int) < 10) = false := by simp; omega
  have hq : Int.tdiv (n : Int) 10 = ((n / 10 : Nat) : Int) := by rw [Int.tdiv_eq_ediv_of_nonneg (by omega)]; omega
  have hr : Int.tmod (n : Int) 10 = ((n % 10 : Nat) : Int) := by rw [Int.tmod_eq_emod_of_nonneg (by omega)]; omega
  have hq' : (n : Int) / 10 = ((n / 10 : Nat) : Int) := by omega
  have hr' : (n : Int) % 10 = ((n % 10 : Nat) : Int) := by omega
  have hq10 : n / 10 < 9223372036854775807 := by omega
  have hm10 : n % 10 < 10 := by omega
  have hw := u8w (n % 10) hm10
  have hlen : (Lib.decDigits (n / 10)).length ≤ 1000000000000000000 := by have := dec_len (n / 10); omega
  generalize n / 10 = q at *
  generalize n % 10 = m at *
  generalize UInt8.ofNat (48 + m) = c at *
  have hs : IntKind.i64.wrap (48 + (m : Int)) = 48 + (m : Int) := IntWalk.i64_in _ (by omega)
  have hs2 : IntKind.i64.wrap (q : Int) = (q : Int) := IntWalk.i64_in _ (by omega)
  have hs3 : IntKind.i64.wrap (m : Int) = (m : Int) := IntWalk.i64_in _ (by omega)
  have hcv := one_byte c
  generalize Lib.decDigits q = D at *
  have hlen2 : D.length ≤ 9223372036854775806 := by omega
  go_enter Tryz.func10, Tryz.ntmps10
  go_wp2_with fail
  go_region_with (go_at_call 10; refine (HT.out.call _).mono ?_; rintro e wx ⟨rfl, hbx⟩; rw [hdd]; have hsx := hbx.size; have hbk : Below w.heap.size _ wx := hbx.mono (by simp); have hbF : Below w.heap.size w wx := Below.trans (by first | exact Below.refl _ _ | exact (Below.refl w.heap.size w).drew | exact ((Below.refl w.heap.size w).drew).alloc (Nat.le_refl _) _ | exact ((Below.refl w.heap.size w).alloc (Nat.le_refl _) _).drew) hbk; have hcx := fun h => bel_cell (a := ⟨w.heap.size, 0, none⟩) (u := Value.int .u8 (c.toNat : Int)) hbx h; (try simp at hcx))
  all_goals go_wp2_with fail
  all_goals go_ret
  all_goals refine ⟨ret_val ?_, ?_⟩
  all_goals first | exact congrArg Value.string (str_app D [c]) | exact hbF | exact hbF.alloc hbF.size _
set_option maxHeartbeats 800000 in
theorem rtext_neg1 (w : World) (n : Int) (m : Nat) (hm : m < 10) (h0 : n < 0) (h1 : -10 < n) (hr : Int.tmod n 10 = -(m : Int)) : Calls Tryz.prog 10 #[.int .i64 n] w fun e w' => e = .returned (.string ⟨#[45, UInt8.ofNat (48 + m)]⟩) ∧ Below w.heap.size w w' := by
  have hw := u8w m hm
  have hn0 : decide (n < 0) = true := by simpa using h0
  have hn1 : decide (-10 < n) = true := by simpa using h1
  have hs1 : IntKind.i64.wrap (m : Int) = (m : Int) := IntWalk.i64_in _ (by omega)
  have hs2 : IntKind.i64.wrap (-(m : Int)) = -(m : Int) := IntWalk.i64_in _ (by omega)
  have hs3 : IntKind.i64.wrap (48 + (m : Int)) = 48 + (m : Int) := IntWalk.i64_in _ (by omega)
  have hcv := one_byte (UInt8.ofNat (48 + m)) (w.alloc (.cells #[.int .u8 ((UInt8.ofNat (48 + m)).toNat : Int)] 5)) w.heap.size (by simp)
  generalize UInt8.ofNat (48 + m) = c at *
  go_enter Tryz.func10, Tryz.ntmps10
  go_wp2_with fail
  go_ret
  exact ⟨ret_val (congrArg Value.string (str_app [45] [c])), (Below.refl _ _).alloc (Nat.le_refl _) _⟩
set_option maxRecDepth 100000 in
set_option maxHeartbeats 2000000 in
theorem rtext_neg2 (w : World) (n q : Int) (m : Nat) (D : List UInt8) (hm : m < 10) (h0 : n < 0) (h1 : ¬ -10 < n) (hr : Int.tmod n 10 = -(m : Int)) (hq : Int.tdiv n 10 = q) (hq0 : -9223372036854775808 ≤ q) (hq1 : q ≤ 0) (hT : RText q) (hdd : Lib.itoa q = D) (hlen : D.length ≤ 1000000000000000001) :
    Calls Tryz.prog 10 #[.int .i64 n] w fun e w' => e = .returned (.string ⟨(D ++ [UInt8.ofNat (48 + m)]).toArray⟩) ∧ Below w.heap.size w w' := by
  have HT := hid hT
  clear hT
  have hw := u8w m hm
  have hn0 : decide (n < 0) = true := by simpa using h0
  have hn1 : decide (-10 < n) = false := by simpa using h1
  have hs1 : IntKind.i64.wrap (m : Int) = (m : Int) := IntWalk.i64_in _ (by omega)
  have hs2 : IntKind.i64.wrap (-(m : Int)) = -(m : Int) := IntWalk.i64_in _ (by omega)
  have hs3 : IntKind.i64.wrap (48 + (m : Int)) = 48 + (m : Int) := IntWalk.i64_in _ (by omega)
  have hs4 : IntKind.i64.wrap q = q := IntWalk.i64_in _ (by omega)
  have hcv := one_byte (UInt8.ofNat (48 + m))
  generalize UInt8.ofNat (48 + m) = c at *
  have hlen2 : D.length ≤ 9223372036854775806 := by omega
  go_enter Tryz.func10, Tryz.ntmps10
  go_wp2_with fail
  go_region_with (go_at_call 10; refine (HT.out.call _).mono ?_; rintro e wx ⟨rfl, hbx⟩; rw [hdd]; have hsx := hbx.size; have hbk : Below w.heap.size _ wx := hbx.mono (by simp); have hbF : Below w.heap.size w wx := Below.trans (by first | exact Below.refl _ _ | exact (Below.refl w.heap.size w).drew | exact ((Below.refl w.heap.size w).drew).alloc (Nat.le_refl _) _ | exact ((Below.refl w.heap.size w).alloc (Nat.le_refl _) _).drew) hbk; have hcx := fun h => bel_cell (a := ⟨w.heap.size, 0, none⟩) (u := Value.int .u8 (c.toNat : Int)) hbx h; (try simp at hcx))
  all_goals go_wp2_with fail
  all_goals go_ret
  all_goals refine ⟨ret_val ?_, ?_⟩
  all_goals first | exact congrArg Value.string (str_app D [c]) | exact hbF | exact hbF.alloc hbF.size _
theorem rtext_nat (n : Nat) (h : n ≤ 9223372036854775807) : RText (n : Int) := by
  induction n using Nat.strongRecOn with
  | _ n ih =>
    by_cases h1 : n < 10
    · exact rtext_pos1 n h1
    · exact rtext_pos2 n (by omega) h (ih (n / 10) (by omega) (by omega))
theorem rtext_neg (k : Nat) (h0 : 0 < k) (h : k ≤ 9223372036854775808) : RText (-(k : Int)) := by
  induction k using Nat.strongRecOn with
  | _ k ih =>
    intro w
    have hr : Int.tmod (-(k : Int)) 10 = -((k % 10 : Nat) : Int) := by rw [Int.neg_tmod, Int.tmod_eq_emod_of_nonneg (by omega)]; omega
    have hq : Int.tdiv (-(k : Int)) 10 = -((k / 10 : Nat) : Int) := by rw [Int.neg_tdiv, Int.tdiv_eq_ediv_of_nonneg (by omega)]; omega
    by_cases h1 : k < 10
    · have := rtext_neg1 w (-(k : Int)) (k % 10) (by omega) (by omega) (by omega) hr
      refine this.mono ?_
      rintro e w' ⟨rfl, hb⟩
      refine ⟨ret_val ?_, hb⟩
      rw [itoa_neg k h0, dec1 k h1, Nat.mod_eq_of_lt h1]
    · have := rtext_neg2 w (-(k : Int)) (-((k / 10 : Nat) : Int)) (k % 10) (45 :: Lib.decDigits (k / 10)) (by omega) (by omega) (by omega) hr hq (by omega) (by omega) (ih (k / 10) (by omega) (by omega) (by omega)) (itoa_neg _ (by omega)) (by have := dec_len (k / 10); simp only [List.length_cons]; omega)
      refine this.mono ?_
      rintro e w' ⟨rfl, hb⟩
      refine ⟨ret_val ?_, hb⟩
      rw [itoa_neg k h0, dec2 k (by omega)]; rfl
theorem rtext_any (n : Int) (h0 : -9223372036854775808 ≤ n) (h1 : n ≤ 9223372036854775807) (w : World) : Calls Tryz.prog 10 #[.int .i64 n] w fun e w' => e = .returned (.string ⟨(Lib.itoa n).toArray⟩) ∧ Below w.heap.size w w' := by
  by_cases h : 0 ≤ n
  · obtain ⟨k, rfl⟩ := Int.eq_ofNat_of_zero_le h
    exact rtext_nat k (by omega) w
  · obtain ⟨k, hk⟩ := Int.eq_ofNat_of_zero_le (show 0 ≤ -n by omega)
    obtain rfl : n = -(k : Int) := by omega
    exact rtext_neg k (by omega) (by omega) w
theorem text_any (n : Int) (h0 : -9223372036854775808 ≤ n) (h1 : n ≤ 9223372036854775807) (w : World) (hL : Laid w) : Calls Tryz.prog 9 #[.int .i64 n] w fun e w' => e = .returned (.string ⟨(Lib.itoa n).toArray⟩) ∧ Below w.heap.size w w' := by
  have HP := hid hL.pow
  go_enter Tryz.func9, Tryz.ntmps9
  go_wp2_with fail
  ((with_reducible refine (Tryz.strconv_FormatInt_10 n h0 h1 _ HP.out).mono ?_); rintro e w1 ⟨rfl, k, os, rfl⟩)
  go_wp2_with fail
  go_ret
  exact ⟨rfl, Lib.below_grow _ _ (Nat.le_refl _) _ _⟩
end Go.Proofs.YtadmmmehphhecaaGreatDoor
