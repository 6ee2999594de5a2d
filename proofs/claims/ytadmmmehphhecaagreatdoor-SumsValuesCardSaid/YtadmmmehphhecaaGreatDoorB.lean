/- The walks of sums.long over each byte predicate. No condition but that a text's length fits an int. -/
import Derived.Test.YtadmmmehphhecaaGreatDoorA
set_option linter.unusedVariables false
set_option linter.unusedSimpArgs false
namespace Go.Proofs.YtadmmmehphhecaaGreatDoor
open Go.RowKit
/-- how many bytes at the beginning are so -/
def longN (f : UInt8 → Bool) (l : List UInt8) : Nat := (l.takeWhile f).length
theorem longN_le (f : UInt8 → Bool) (l : List UInt8) : longN f l ≤ l.length := (List.takeWhile_prefix f).length_le
theorem longN_in (f : UInt8 → Bool) (l : List UInt8) (k : Nat) (h : k < longN f l) : f (l[k]'(Nat.lt_of_lt_of_le h (longN_le f l))) = true := by
  have hpre := List.takeWhile_prefix f (l := l)
  have hm := List.getElem_mem (l := l.takeWhile f) h
  rw [hpre.getElem h] at hm
  exact List.all_eq_true.1 (List.all_takeWhile (p := f) (l := l)) _ hm
theorem longN_stop (f : UInt8 → Bool) (l : List UInt8) (h : longN f l < l.length) : f l[longN f l] = false := by
  unfold longN at *
  induction l with
  | nil => simp at h
  | cons a r ih =>
    cases ha : f a with
    | false => simp [List.takeWhile_cons, ha]
    | true =>
      simp only [List.takeWhile_cons, ha, if_true, List.length_cons, List.getElem_cons_succ] at h ⊢
      exact ih (by omega)
set_option maxHeartbeats 800000 in
theorem long_digit (s : ByteArray) (w : World) (hs : s.size ≤ 9223372036854775807) :
    Calls Tryz.prog 53 #[.string s, .func (.func 50) #[] #[]] w fun e w' => e = .returned (.int .i64 (longN digB s.data.toList : Nat)) ∧ w = w' := by
  obtain ⟨n, hn⟩ : ∃ n, n = longN digB s.data.toList := ⟨_, rfl⟩
  have hsl : s.data.toList.length = s.size := by simp
  have hle : n ≤ s.size := by rw [hn, ← hsl]; exact longN_le _ _
  have HI : Hid (∀ k (h : k < s.size), k < n → digB s[k] = true) := hid (fun k h hk => by
    have := longN_in digB s.data.toList k (by rw [← hn]; exact hk)
    rw [Array.getElem_toList] at this; exact this)
  have HS : Hid (∀ h : n < s.size, digB s[n] = false) := hid (fun h => by
    have := longN_stop digB s.data.toList (by rw [hsl, ← hn]; exact h)
    subst hn
    rw [Array.getElem_toList] at this; exact this)
  rw [← hn]
  clear hn hsl
  go_enter Tryz.func53, Tryz.ntmps53
  go_wp2_with fail
  go_loop [5] (fun vn => ∃ k : Nat, k ≤ n ∧ vn = .int .i64 k) (fun vn => s.size - (intOf vn).toNat)
  case atStart => exact ⟨0, Nat.zero_le _, rfl⟩
  case round =>
    obtain ⟨k, hk, rfl⟩ := hrel
    by_cases hkn : k < n
    · have hlt : k < s.size := by omega
      have hi := HI.out k hlt hkn
      go_wp2_with fail
      ((with_reducible refine (digit_any s[k] _).mono ?_); rintro e w1 ⟨rfl, rfl⟩)
      rw [hi]
      go_wp2_with fail
      go_round
      case rel => exact ⟨k + 1, by omega, by go_num⟩
      case measure => simp [intOf]; omega
    · obtain rfl : k = n := by omega
      by_cases hlt : k < s.size
      · have hi := HS.out hlt
        go_wp2_with fail
        ((with_reducible refine (digit_any s[k] _).mono ?_); rintro e w1 ⟨rfl, rfl⟩)
        rw [hi]
        go_wp2_with fail
        go_ret
        exact ⟨rfl, rfl⟩
      · have hd : decide (k < s.size) = false := by simpa using hlt
        go_wp2_with fail
        go_ret
        exact ⟨rfl, rfl⟩
set_option maxHeartbeats 800000 in
theorem long_hex (s : ByteArray) (w : World) (hs : s.size ≤ 9223372036854775807) :
    Calls Tryz.prog 53 #[.string s, .func (.func 51) #[] #[]] w fun e w' => e = .returned (.int .i64 (longN hexB s.data.toList : Nat)) ∧ w = w' := by
  obtain ⟨n, hn⟩ : ∃ n, n = longN hexB s.data.toList := ⟨_, rfl⟩
  have hsl : s.data.toList.length = s.size := by simp
  have hle : n ≤ s.size := by rw [hn, ← hsl]; exact longN_le _ _
  have HI : Hid (∀ k (h : k < s.size), k < n → hexB s[k] = true) := hid (fun k h hk => by
    have := longN_in hexB s.data.toList k (by rw [← hn]; exact hk)
    rw [Array.getElem_toList] at this; exact this)
  have HS : Hid (∀ h : n < s.size, hexB s[n] = false) := hid (fun h => by
    have := longN_stop hexB s.data.toList (by rw [hsl, ← hn]; exact h)
    subst hn
    rw [Array.getElem_toList] at this; exact this)
  rw [← hn]
  clear hn hsl
  go_enter Tryz.func53, Tryz.ntmps53
  go_wp2_with fail
  go_loop [5] (fun vn => ∃ k : Nat, k ≤ n ∧ vn = .int .i64 k) (fun vn => s.size - (intOf vn).toNat)
  case atStart => exact ⟨0, Nat.zero_le _, rfl⟩
  case round =>
    obtain ⟨k, hk, rfl⟩ := hrel
    by_cases hkn : k < n
    · have hlt : k < s.size := by omega
      have hi := HI.out k hlt hkn
      go_wp2_with fail
      ((with_reducible refine (hex_any s[k] _).mono ?_); rintro e w1 ⟨rfl, rfl⟩)
      rw [hi]
      go_wp2_with fail
      go_round
      case rel => exact ⟨k + 1, by omega, by go_num⟩
      case measure => simp [intOf]; omega
    · obtain rfl : k = n := by omega
      by_cases hlt : k < s.size
      · have hi := HS.out hlt
        go_wp2_with fail
        ((with_reducible refine (hex_any s[k] _).mono ?_); rintro e w1 ⟨rfl, rfl⟩)
        rw [hi]
        go_wp2_with fail
        go_ret
        exact ⟨rfl, rfl⟩
      · have hd : decide (k < s.size) = false := by simpa using hlt
        go_wp2_with fail
        go_ret
        exact ⟨rfl, rfl⟩
set_option maxHeartbeats 800000 in
theorem long_oct (s : ByteArray) (w : World) (hs : s.size ≤ 9223372036854775807) :
    Calls Tryz.prog 53 #[.string s, .func (.func 52) #[] #[]] w fun e w' => e = .returned (.int .i64 (longN octB s.data.toList : Nat)) ∧ w = w' := by
  obtain ⟨n, hn⟩ : ∃ n, n = longN octB s.data.toList := ⟨_, rfl⟩
  have hsl : s.data.toList.length = s.size := by simp
  have hle : n ≤ s.size := by rw [hn, ← hsl]; exact longN_le _ _
  have HI : Hid (∀ k (h : k < s.size), k < n → octB s[k] = true) := hid (fun k h hk => by
    have := longN_in octB s.data.toList k (by rw [← hn]; exact hk)
    rw [Array.getElem_toList] at this; exact this)
  have HS : Hid (∀ h : n < s.size, octB s[n] = false) := hid (fun h => by
    have := longN_stop octB s.data.toList (by rw [hsl, ← hn]; exact h)
    subst hn
    rw [Array.getElem_toList] at this; exact this)
  rw [← hn]
  clear hn hsl
  go_enter Tryz.func53, Tryz.ntmps53
  go_wp2_with fail
  go_loop [5] (fun vn => ∃ k : Nat, k ≤ n ∧ vn = .int .i64 k) (fun vn => s.size - (intOf vn).toNat)
  case atStart => exact ⟨0, Nat.zero_le _, rfl⟩
  case round =>
    obtain ⟨k, hk, rfl⟩ := hrel
    by_cases hkn : k < n
    · have hlt : k < s.size := by omega
      have hi := HI.out k hlt hkn
      go_wp2_with fail
      ((with_reducible refine (oct_any s[k] _).mono ?_); rintro e w1 ⟨rfl, rfl⟩)
      rw [hi]
      go_wp2_with fail
      go_round
      case rel => exact ⟨k + 1, by omega, by go_num⟩
      case measure => simp [intOf]; omega
    · obtain rfl : k = n := by omega
      by_cases hlt : k < s.size
      · have hi := HS.out hlt
        go_wp2_with fail
        ((with_reducible refine (oct_any s[k] _).mono ?_); rintro e w1 ⟨rfl, rfl⟩)
        rw [hi]
        go_wp2_with fail
        go_ret
        exact ⟨rfl, rfl⟩
      · have hd : decide (k < s.size) = false := by simpa using hlt
        go_wp2_with fail
        go_ret
        exact ⟨rfl, rfl⟩
set_option maxHeartbeats 800000 in
theorem long_blank (s : ByteArray) (w : World) (hs : s.size ≤ 9223372036854775807) :
    Calls Tryz.prog 53 #[.string s, .func (.func 73) #[] #[]] w fun e w' => e = .returned (.int .i64 (longN blkB s.data.toList : Nat)) ∧ w = w' := by
  obtain ⟨n, hn⟩ : ∃ n, n = longN blkB s.data.toList := ⟨_, rfl⟩
  have hsl : s.data.toList.length = s.size := by simp
  have hle : n ≤ s.size := by rw [hn, ← hsl]; exact longN_le _ _
  have HI : Hid (∀ k (h : k < s.size), k < n → blkB s[k] = true) := hid (fun k h hk => by
    have := longN_in blkB s.data.toList k (by rw [← hn]; exact hk)
    rw [Array.getElem_toList] at this; exact this)
  have HS : Hid (∀ h : n < s.size, blkB s[n] = false) := hid (fun h => by
    have := longN_stop blkB s.data.toList (by rw [hsl, ← hn]; exact h)
    subst hn
    rw [Array.getElem_toList] at this; exact this)
  rw [← hn]
  clear hn hsl
  go_enter Tryz.func53, Tryz.ntmps53
  go_wp2_with fail
  go_loop [5] (fun vn => ∃ k : Nat, k ≤ n ∧ vn = .int .i64 k) (fun vn => s.size - (intOf vn).toNat)
  case atStart => exact ⟨0, Nat.zero_le _, rfl⟩
  case round =>
    obtain ⟨k, hk, rfl⟩ := hrel
    by_cases hkn : k < n
    · have hlt : k < s.size := by omega
      have hi := HI.out k hlt hkn
      go_wp2_with fail
      ((with_reducible refine (blank_any s[k] _).mono ?_); rintro e w1 ⟨rfl, rfl⟩)
      rw [hi]
      go_wp2_with fail
      go_round
      case rel => exact ⟨k + 1, by omega, by go_num⟩
      case measure => simp [intOf]; omega
    · obtain rfl : k = n := by omega
      by_cases hlt : k < s.size
      · have hi := HS.out hlt
        go_wp2_with fail
        ((with_reducible refine (blank_any s[k] _).mono ?_); rintro e w1 ⟨rfl, rfl⟩)
        rw [hi]
        go_wp2_with fail
        go_ret
        exact ⟨rfl, rfl⟩
      · have hd : decide (k < s.size) = false := by simpa using hlt
        go_wp2_with fail
        go_ret
        exact ⟨rfl, rfl⟩
set_option maxHeartbeats 800000 in
theorem long_wordN (s : ByteArray) (w : World) (hs : s.size ≤ 9223372036854775807) :
    Calls Tryz.prog 53 #[.string s, .func (.func 74) #[] #[]] w fun e w' => e = .returned (.int .i64 (longN wrdB s.data.toList : Nat)) ∧ w = w' := by
  obtain ⟨n, hn⟩ : ∃ n, n = longN wrdB s.data.toList := ⟨_, rfl⟩
  have hsl : s.data.toList.length = s.size := by simp
  have hle : n ≤ s.size := by rw [hn, ← hsl]; exact longN_le _ _
  have HI : Hid (∀ k (h : k < s.size), k < n → wrdB s[k] = true) := hid (fun k h hk => by
    have := longN_in wrdB s.data.toList k (by rw [← hn]; exact hk)
    rw [Array.getElem_toList] at this; exact this)
  have HS : Hid (∀ h : n < s.size, wrdB s[n] = false) := hid (fun h => by
    have := longN_stop wrdB s.data.toList (by rw [hsl, ← hn]; exact h)
    subst hn
    rw [Array.getElem_toList] at this; exact this)
  rw [← hn]
  clear hn hsl
  go_enter Tryz.func53, Tryz.ntmps53
  go_wp2_with fail
  go_loop [5] (fun vn => ∃ k : Nat, k ≤ n ∧ vn = .int .i64 k) (fun vn => s.size - (intOf vn).toNat)
  case atStart => exact ⟨0, Nat.zero_le _, rfl⟩
  case round =>
    obtain ⟨k, hk, rfl⟩ := hrel
    by_cases hkn : k < n
    · have hlt : k < s.size := by omega
      have hi := HI.out k hlt hkn
      go_wp2_with fail
      ((with_reducible refine (wordN_any s[k] _).mono ?_); rintro e w1 ⟨rfl, rfl⟩)
      rw [hi]
      go_wp2_with fail
      go_round
      case rel => exact ⟨k + 1, by omega, by go_num⟩
      case measure => simp [intOf]; omega
    · obtain rfl : k = n := by omega
      by_cases hlt : k < s.size
      · have hi := HS.out hlt
        go_wp2_with fail
        ((with_reducible refine (wordN_any s[k] _).mono ?_); rintro e w1 ⟨rfl, rfl⟩)
        rw [hi]
        go_wp2_with fail
        go_ret
        exact ⟨rfl, rfl⟩
      · have hd : decide (k < s.size) = false := by simpa using hlt
        go_wp2_with fail
        go_ret
        exact ⟨rfl, rfl⟩
set_option maxHeartbeats 800000 in
theorem long_wordR (s : ByteArray) (w : World) (hs : s.size ≤ 9223372036854775807) :
    Calls Tryz.prog 53 #[.string s, .func (.func 59) #[] #[]] w fun e w' => e = .returned (.int .i64 (longN wrdB s.data.toList : Nat)) ∧ w = w' := by
  obtain ⟨n, hn⟩ : ∃ n, n = longN wrdB s.data.toList := ⟨_, rfl⟩
  have hsl : s.data.toList.length = s.size := by simp
  have hle : n ≤ s.size := by rw [hn, ← hsl]; exact longN_le _ _
  have HI : Hid (∀ k (h : k < s.size), k < n → wrdB s[k] = true) := hid (fun k h hk => by
    have := longN_in wrdB s.data.toList k (by rw [← hn]; exact hk)
    rw [Array.getElem_toList] at this; exact this)
  have HS : Hid (∀ h : n < s.size, wrdB s[n] = false) := hid (fun h => by
    have := longN_stop wrdB s.data.toList (by rw [hsl, ← hn]; exact h)
    subst hn
    rw [Array.getElem_toList] at this; exact this)
  rw [← hn]
  clear hn hsl
  go_enter Tryz.func53, Tryz.ntmps53
  go_wp2_with fail
  go_loop [5] (fun vn => ∃ k : Nat, k ≤ n ∧ vn = .int .i64 k) (fun vn => s.size - (intOf vn).toNat)
  case atStart => exact ⟨0, Nat.zero_le _, rfl⟩
  case round =>
    obtain ⟨k, hk, rfl⟩ := hrel
    by_cases hkn : k < n
    · have hlt : k < s.size := by omega
      have hi := HI.out k hlt hkn
      go_wp2_with fail
      ((with_reducible refine (wordR_any s[k] _).mono ?_); rintro e w1 ⟨rfl, rfl⟩)
      rw [hi]
      go_wp2_with fail
      go_round
      case rel => exact ⟨k + 1, by omega, by go_num⟩
      case measure => simp [intOf]; omega
    · obtain rfl : k = n := by omega
      by_cases hlt : k < s.size
      · have hi := HS.out hlt
        go_wp2_with fail
        ((with_reducible refine (wordR_any s[k] _).mono ?_); rintro e w1 ⟨rfl, rfl⟩)
        rw [hi]
        go_wp2_with fail
        go_ret
        exact ⟨rfl, rfl⟩
      · have hd : decide (k < s.size) = false := by simpa using hlt
        go_wp2_with fail
        go_ret
        exact ⟨rfl, rfl⟩
end Go.Proofs.YtadmmmehphhecaaGreatDoor
