/- The walk of whelkref03.number. -/
import Derived.Test.YtadmmmehphhecaaGreatDoorEb
import Derived.StillTailTactics
import Derived.Deep.RegionHeld3
import Derived.Deep.RegionWith
set_option linter.unusedVariables false
set_option linter.unusedSimpArgs false
namespace Go.Proofs.YtadmmmehphhecaaGreatDoor
open Go.RowKit
set_option maxRecDepth 100000 in
set_option maxHeartbeats 4000000 in
theorem rnum_oct2 (s : ByteArray) (j : Nat) (w : World) (hs : s.size ≤ 100000) (hj : j < s.size) (h0 : s[j].toNat = 48) (h2 : j + 2 < s.size) (h3 : ¬ s[j + 1].toNat = 120) (h4 : ¬ s[j + 1].toNat = 88) (ds : List UInt8) (hW : Way s (j) 8 ds) : Calls Tryz.prog 27 #[.string s, .int .i64 (j : Int)] w (RNum 8 ds (j + ds.length) w) := by
  have HW := hid hW
  have hmle := hW.hi
  obtain ⟨m, hm⟩ : ∃ m, m = ds.length := ⟨_, rfl⟩
  rw [← hm] at hmle
  have HMM := hid hm
  clear hW hm
  have hd2 : decide ((j : Int) + 2 < (s.size : Int)) = decide (j + 2 < s.size) := by apply decide_eq_decide.2; omega
  have hne : ((s[j].toNat : Int) == 48) = true := by simp; omega
  have hnx : ((s[j + 1].toNat : Int) == 120) = false := by simp; omega
  have hnX : ((s[j + 1].toNat : Int) == 88) = false := by simp; omega
  have hb2 : decide (j + 2 < s.size) = true := by simpa using h2
  have hj1 : j + 1 < s.size := by omega
  · skip
    go_enter Tryz.func27, Tryz.ntmps27
    go_wp2_with fail
    go_loop [1, 8, 9, 10] (fun v1 v8 v9 v10 => ∃ (k x : Nat) (o : Bool), k ≤ m ∧ StB 8 ds k x o ∧ v1 = .int .i64 (((j + k : Nat)) : Int) ∧ v8 = .int .u64 (x : Int) ∧ v9 = .bool o) (fun v1 v8 v9 v10 => s.size - (intOf v1).toNat)
    case atStart => exact ⟨0, 0, true, Nat.zero_le _, StB.zero _ _, rfl, rfl, rfl⟩
    case round =>
      obtain ⟨k, x, o, hk, hst, rfl, rfl, rfl⟩ := hrel
      have HST := hid hst
      have hx := hst.1
      clear hst
      by_cases hkm : k < m
      · obtain ⟨hlt, hv0, hdv, hck⟩ := HW.out.inn k (by rw [← HMM.out]; exact hkm)
        have hv : rdF s[j + k] 8 = (dv s[j + k] : Int) := hv0
        clear hv0
        have HCK := hid hck
        have HST2 := hid (HST.out.step hck (by decide) hdv (by decide))
        clear hck
        have hwm := wrap_mul x 8 (dv s[j + k])
        have hdvn : IntKind.u64.wrap (dv s[j + k] : Int) = (dv s[j + k] : Int) := by simp [IntKind.wrap, IntKind.signed, IntKind.bits]; omega
        have hd16 : dv s[j + k] < 16 := by omega
        clear hdv
        generalize dv s[j + k] = d at *
        have hsub : IntKind.u64.wrap (18446744073709551615 - (d : Int)) = ((18446744073709551615 - d : Nat) : Int) := by simp [IntKind.wrap, IntKind.signed, IntKind.bits]; omega
        obtain ⟨M, hM⟩ : ∃ M, M = 18446744073709551615 - d := ⟨_, rfl⟩
        rw [← hM] at hsub HST2
        have hquo : Int.tdiv (M : Int) 8 = ((M / 8 : Nat) : Int) := by rw [Int.tdiv_eq_ediv_of_nonneg (by omega)]; rfl
        have hquo' : (M : Int) / 8 = ((M / 8 : Nat) : Int) := rfl
        have hqw : IntKind.u64.wrap ((M / 8 : Nat) : Int) = ((M / 8 : Nat) : Int) := by simp [IntKind.wrap, IntKind.signed, IntKind.bits]; omega
        generalize M / 8 = Q at *
        have HM := hid hM
        clear hM
        go_wp2_with fail
        ((with_reducible refine (rdigit_any s[j + k] 8 _).mono ?_); rintro e w1 ⟨rfl, rfl⟩)
        rw [hv]
        go_wp2_with fail
        ((with_reducible refine (rdigit_any s[j + k] 8 _).mono ?_); rintro e w1 ⟨rfl, rfl⟩)
        rw [hv]
        by_cases ho : Q < x
        · rw [if_pos ho] at HST2
          go_wp2_with fail
          go_round
          case rel => exact ⟨k + 1, _, false, by omega, HST2.out, by go_num, congrArg (Value.int .u64) (wrap_mul x 8 d), rfl⟩
          case measure => simp [intOf]; omega
        · rw [if_neg ho] at HST2
          go_wp2_with fail
          go_round
          case rel => exact ⟨k + 1, _, o, by omega, HST2.out, by go_num, congrArg (Value.int .u64) (wrap_mul x 8 d), rfl⟩
          case measure => simp [intOf]; omega
      · obtain rfl : k = m := by omega
        by_cases hlt : j + k < s.size
        · have hv : rdF s[j + k] 8 = -1 := by have := HW.out.out (by rw [← HMM.out]; exact hlt); simp only [← HMM.out] at this; exact this
          go_wp2_with fail
          ((with_reducible refine (rdigit_any s[j + k] 8 _).mono ?_); rintro e w1 ⟨rfl, rfl⟩)
          rw [hv]
          go_wp2_with fail
          refine bodyPost_ret (v := .tuple #[.int .u64 (x : Int), .int .i64 ((j + k : Nat) : Int), .bool o]) (by simp [results, Tryz.results27, go_sem]) rfl ?_
          exact ⟨rfl, x, o, by rw [← HMM.out]; exact HST.out, by rw [← HMM.out]⟩
        · have hlt' : ¬ (j : Int) + (k : Int) < (s.size : Int) := by omega
          go_wp2_with fail
          refine bodyPost_ret (v := .tuple #[.int .u64 (x : Int), .int .i64 ((j + k : Nat) : Int), .bool o]) (by simp [results, Tryz.results27, go_sem]) rfl ?_
          exact ⟨rfl, x, o, by rw [← HMM.out]; exact HST.out, by rw [← HMM.out]⟩
set_option maxRecDepth 100000 in
set_option maxHeartbeats 4000000 in
theorem rnum_octx (s : ByteArray) (j : Nat) (w : World) (hs : s.size ≤ 100000) (hj : j < s.size) (h0 : s[j].toNat = 48) (h2 : j + 2 < s.size) (h3 : s[j + 1].toNat = 120) (hv0 : rdF s[j + 2] 16 = -1) (ds : List UInt8) (hW : Way s (j) 8 ds) : Calls Tryz.prog 27 #[.string s, .int .i64 (j : Int)] w (RNum 8 ds (j + ds.length) w) := by
  have HW := hid hW
  have hmle := hW.hi
  obtain ⟨m, hm⟩ : ∃ m, m = ds.length := ⟨_, rfl⟩
  rw [← hm] at hmle
  have HMM := hid hm
  clear hW hm
  have hd2 : decide ((j : Int) + 2 < (s.size : Int)) = decide (j + 2 < s.size) := by apply decide_eq_decide.2; omega
  have hne : ((s[j].toNat : Int) == 48) = true := by simp; omega
  have hnx : ((s[j + 1].toNat : Int) == 120) = true := by simp; omega
  have hb2 : decide (j + 2 < s.size) = true := by simpa using h2
  have hj1 : j + 1 < s.size := by omega
  · skip
    go_enter Tryz.func27, Tryz.ntmps27
    go_wp2_with fail
    ((with_reducible refine (rdigit_any s[j + 2] 16 _).mono ?_); rintro e w1 ⟨rfl, rfl⟩)
    rw [hv0]
    go_wp2_with fail
    go_loop [1, 8, 9, 10] (fun v1 v8 v9 v10 => ∃ (k x : Nat) (o : Bool), k ≤ m ∧ StB 8 ds k x o ∧ v1 = .int .i64 (((j + k : Nat)) : Int) ∧ v8 = .int .u64 (x : Int) ∧ v9 = .bool o) (fun v1 v8 v9 v10 => s.size - (intOf v1).toNat)
    case atStart => exact ⟨0, 0, true, Nat.zero_le _, StB.zero _ _, rfl, rfl, rfl⟩
    case round =>
      obtain ⟨k, x, o, hk, hst, rfl, rfl, rfl⟩ := hrel
      have HST := hid hst
      have hx := hst.1
      clear hst
      by_cases hkm : k < m
      · obtain ⟨hlt, hv0, hdv, hck⟩ := HW.out.inn k (by rw [← HMM.out]; exact hkm)
        have hv : rdF s[j + k] 8 = (dv s[j + k] : Int) := hv0
        clear hv0
        have HCK := hid hck
        have HST2 := hid (HST.out.step hck (by decide) hdv (by decide))
        clear hck
        have hwm := wrap_mul x 8 (dv s[j + k])
        have hdvn : IntKind.u64.wrap (dv s[j + k] : Int) = (dv s[j + k] : Int) := by simp [IntKind.wrap, IntKind.signed, IntKind.bits]; omega
        have hd16 : dv s[j + k] < 16 := by omega
        clear hdv
        generalize dv s[j + k] = d at *
        have hsub : IntKind.u64.wrap (18446744073709551615 - (d : Int)) = ((18446744073709551615 - d : Nat) : Int) := by simp [IntKind.wrap, IntKind.signed, IntKind.bits]; omega
        obtain ⟨M, hM⟩ : ∃ M, M = 18446744073709551615 - d := ⟨_, rfl⟩
        rw [← hM] at hsub HST2
        have hquo : Int.tdiv (M : Int) 8 = ((M / 8 : Nat) : Int) := by rw [Int.tdiv_eq_ediv_of_nonneg (by omega)]; rfl
        have hquo' : (M : Int) / 8 = ((M / 8 : Nat) : Int) := rfl
        have hqw : IntKind.u64.wrap ((M / 8 : Nat) : Int) = ((M / 8 : Nat) : Int) := by simp [IntKind.wrap, IntKind.signed, IntKind.bits]; omega
        generalize M / 8 = Q at *
        have HM := hid hM
        clear hM
        go_wp2_with fail
        ((with_reducible refine (rdigit_any s[j + k] 8 _).mono ?_); rintro e w1 ⟨rfl, rfl⟩)
        rw [hv]
        go_wp2_with fail
        ((with_reducible refine (rdigit_any s[j + k] 8 _).mono ?_); rintro e w1 ⟨rfl, rfl⟩)
        rw [hv]
        by_cases ho : Q < x
        · rw [if_pos ho] at HST2
          go_wp2_with fail
          go_round
          case rel => exact ⟨k + 1, _, false, by omega, HST2.out, by go_num, congrArg (Value.int .u64) (wrap_mul x 8 d), rfl⟩
          case measure => simp [intOf]; omega
        · rw [if_neg ho] at HST2
          go_wp2_with fail
          go_round
          case rel => exact ⟨k + 1, _, o, by omega, HST2.out, by go_num, congrArg (Value.int .u64) (wrap_mul x 8 d), rfl⟩
          case measure => simp [intOf]; omega
      · obtain rfl : k = m := by omega
        by_cases hlt : j + k < s.size
        · have hv : rdF s[j + k] 8 = -1 := by have := HW.out.out (by rw [← HMM.out]; exact hlt); simp only [← HMM.out] at this; exact this
          go_wp2_with fail
          ((with_reducible refine (rdigit_any s[j + k] 8 _).mono ?_); rintro e w1 ⟨rfl, rfl⟩)
          rw [hv]
          go_wp2_with fail
          refine bodyPost_ret (v := .tuple #[.int .u64 (x : Int), .int .i64 ((j + k : Nat) : Int), .bool o]) (by simp [results, Tryz.results27, go_sem]) rfl ?_
          exact ⟨rfl, x, o, by rw [← HMM.out]; exact HST.out, by rw [← HMM.out]⟩
        · have hlt' : ¬ (j : Int) + (k : Int) < (s.size : Int) := by omega
          go_wp2_with fail
          refine bodyPost_ret (v := .tuple #[.int .u64 (x : Int), .int .i64 ((j + k : Nat) : Int), .bool o]) (by simp [results, Tryz.results27, go_sem]) rfl ?_
          exact ⟨rfl, x, o, by rw [← HMM.out]; exact HST.out, by rw [← HMM.out]⟩
set_option maxRecDepth 100000 in
set_option maxHeartbeats 4000000 in
theorem rnum_octX (s : ByteArray) (j : Nat) (w : World) (hs : s.size ≤ 100000) (hj : j < s.size) (h0 : s[j].toNat = 48) (h2 : j + 2 < s.size) (h3 : s[j + 1].toNat = 88) (hv0 : rdF s[j + 2] 16 = -1) (ds : List UInt8) (hW : Way s (j) 8 ds) : Calls Tryz.prog 27 #[.string s, .int .i64 (j : Int)] w (RNum 8 ds (j + ds.length) w) := by
  have HW := hid hW
  have hmle := hW.hi
  obtain ⟨m, hm⟩ : ∃ m, m = ds.length := ⟨_, rfl⟩
  rw [← hm] at hmle
  have HMM := hid hm
  clear hW hm
  have hd2 : decide ((j : Int) + 2 < (s.size : Int)) = decide (j + 2 < s.size) := by apply decide_eq_decide.2; omega
  have hne : ((s[j].toNat : Int) == 48) = true := by simp; omega
  have hnx : ((s[j + 1].toNat : Int) == 120) = false := by simp; omega
  have hnX : ((s[j + 1].toNat : Int) == 88) = true := by simp; omega
  have hb2 : decide (j + 2 < s.size) = true := by simpa using h2
  have hj1 : j + 1 < s.size := by omega
  · skip
    go_enter Tryz.func27, Tryz.ntmps27
    go_wp2_with fail
    ((with_reducible refine (rdigit_any s[j + 2] 16 _).mono ?_); rintro e w1 ⟨rfl, rfl⟩)
    rw [hv0]
    go_wp2_with fail
    go_loop [1, 8, 9, 10] (fun v1 v8 v9 v10 => ∃ (k x : Nat) (o : Bool), k ≤ m ∧ StB 8 ds k x o ∧ v1 = .int .i64 (((j + k : Nat)) : Int) ∧ v8 = .int .u64 (x : Int) ∧ v9 = .bool o) (fun v1 v8 v9 v10 => s.size - (intOf v1).toNat)
    case atStart => exact ⟨0, 0, true, Nat.zero_le _, StB.zero _ _, rfl, rfl, rfl⟩
    case round =>
      obtain ⟨k, x, o, hk, hst, rfl, rfl, rfl⟩ := hrel
      have HST := hid hst
      have hx := hst.1
      clear hst
      by_cases hkm : k < m
      · obtain ⟨hlt, hv0, hdv, hck⟩ := HW.out.inn k (by rw [← HMM.out]; exact hkm)
        have hv : rdF s[j + k] 8 = (dv s[j + k] : Int) := hv0
        clear hv0
        have HCK := hid hck
        have HST2 := hid (HST.out.step hck (by decide) hdv (by decide))
        clear hck
        have hwm := wrap_mul x 8 (dv s[j + k])
        have hdvn : IntKind.u64.wrap (dv s[j + k] : Int) = (dv s[j + k] : Int) := by simp [IntKind.wrap, IntKind.signed, IntKind.bits]; omega
        have hd16 : dv s[j + k] < 16 := by omega
        clear hdv
        generalize dv s[j + k] = d at *
        have hsub : IntKind.u64.wrap (18446744073709551615 - (d : Int)) = ((18446744073709551615 - d : Nat) : Int) := by simp [IntKind.wrap, IntKind.signed, IntKind.bits]; omega
        obtain ⟨M, hM⟩ : ∃ M, M = 18446744073709551615 - d := ⟨_, rfl⟩
        rw [← hM] at hsub HST2
        have hquo : Int.tdiv (M : Int) 8 = ((M / 8 : Nat) : Int) := by rw [Int.tdiv_eq_ediv_of_nonneg (by omega)]; rfl
        have hquo' : (M : Int) / 8 = ((M / 8 : Nat) : Int) := rfl
        have hqw : IntKind.u64.wrap ((M / 8 : Nat) : Int) = ((M / 8 : Nat) : Int) := by simp [IntKind.wrap, IntKind.signed, IntKind.bits]; omega
        generalize M / 8 = Q at *
        have HM := hid hM
        clear hM
        go_wp2_with fail
        ((with_reducible refine (rdigit_any s[j + k] 8 _).mono ?_); rintro e w1 ⟨rfl, rfl⟩)
        rw [hv]
        go_wp2_with fail
        ((with_reducible refine (rdigit_any s[j + k] 8 _).mono ?_); rintro e w1 ⟨rfl, rfl⟩)
        rw [hv]
        by_cases ho : Q < x
        · rw [if_pos ho] at HST2
          go_wp2_with fail
          go_round
          case rel => exact ⟨k + 1, _, false, by omega, HST2.out, by go_num, congrArg (Value.int .u64) (wrap_mul x 8 d), rfl⟩
          case measure => simp [intOf]; omega
        · rw [if_neg ho] at HST2
          go_wp2_with fail
          go_round
          case rel => exact ⟨k + 1, _, o, by omega, HST2.out, by go_num, congrArg (Value.int .u64) (wrap_mul x 8 d), rfl⟩
          case measure => simp [intOf]; omega
      · obtain rfl : k = m := by omega
        by_cases hlt : j + k < s.size
        · have hv : rdF s[j + k] 8 = -1 := by have := HW.out.out (by rw [← HMM.out]; exact hlt); simp only [← HMM.out] at this; exact this
          go_wp2_with fail
          ((with_reducible refine (rdigit_any s[j + k] 8 _).mono ?_); rintro e w1 ⟨rfl, rfl⟩)
          rw [hv]
          go_wp2_with fail
          refine bodyPost_ret (v := .tuple #[.int .u64 (x : Int), .int .i64 ((j + k : Nat) : Int), .bool o]) (by simp [results, Tryz.results27, go_sem]) rfl ?_
          exact ⟨rfl, x, o, by rw [← HMM.out]; exact HST.out, by rw [← HMM.out]⟩
        · have hlt' : ¬ (j : Int) + (k : Int) < (s.size : Int) := by omega
          go_wp2_with fail
          refine bodyPost_ret (v := .tuple #[.int .u64 (x : Int), .int .i64 ((j + k : Nat) : Int), .bool o]) (by simp [results, Tryz.results27, go_sem]) rfl ?_
          exact ⟨rfl, x, o, by rw [← HMM.out]; exact HST.out, by rw [← HMM.out]⟩
end Go.Proofs.YtadmmmehphhecaaGreatDoor
