/- The walk of internal/strconv.ParseUint at bases 8, 10 and 16, at 64 bits, on texts that are digits of the base; and of strconv.ParseUint there. No condition but that a text is not empty and its length fits an int. -/
import Derived.Test.YtadmmmehphhecaaGreatDoorB
import Derived.Lib.Walk
import Derived.Lib.ConvBytes
import Derived.Lib.AtoiAllMem
import Derived.Lib.AtoiErrMem
import Derived.IntWalk
import Derived.Laws.Strings3
import Derived.Laws.Closers25
import Derived.Laws.Closers25b
import Derived.BigCall
import Derived.BigGuard
set_option linter.unusedVariables false
set_option linter.unusedSimpArgs false
namespace Go.Proofs.YtadmmmehphhecaaGreatDoor
open Go.RowKit
/-- a digit's value -/
def dv (c : UInt8) : Nat := if c.toNat ≤ 57 then c.toNat - 48 else if c.toNat ≤ 70 then c.toNat - 55 else c.toNat - 87
/-- the number of digits of a base; none: it has more than 64 bits -/
def parseB (base : Nat) : Nat → List UInt8 → Option Nat
  | acc, [] => some acc
  | acc, c :: r => if 18446744073709551616 ≤ acc * base + dv c then none else parseB base (acc * base + dv c) r
def uintRes : Option Nat → Value
  | some n => .tuple #[.int .u64 (n : Int), .nilIface]
  | none => .tuple #[.int .u64 18446744073709551615, .iface 123 (.int .i64 1)]
theorem uintRes_none {o : Option Nat} (h : o = none) : uintRes o = .tuple #[.int .u64 18446744073709551615, .iface 123 (.int .i64 1)] := by rw [h]; rfl
theorem uintRes_some {o : Option Nat} {n : Nat} (h : o = some n) : uintRes o = .tuple #[.int .u64 (n : Int), .nilIface] := by rw [h]; rfl
theorem lower_hex (c : UInt8) (h : hexB c = true) (hd : digB c = false) : bits BinOp.or IntKind.u8 (c.toNat : Int) 32 = (dv c : Int) + 87 ∧ 10 ≤ dv c ∧ dv c ≤ 15 := by
  revert c; apply all_u8 (p := fun c => hexB c = true → digB c = false → bits BinOp.or IntKind.u8 (c.toNat : Int) 32 = (dv c : Int) + 87 ∧ 10 ≤ dv c ∧ dv c ≤ 15); decide +kernel
theorem lower_any (b : UInt8) (w : World) : Calls Tryz.prog 97 #[.int .u8 (b.toNat : Int)] w fun e w' => e = .returned (.int .u8 (bits BinOp.or IntKind.u8 (b.toNat : Int) 32)) ∧ w = w' := by
  go_enter Tryz.func97, Tryz.ntmps97
  go_wp2_with fail
  go_ret
  exact ⟨rfl, rfl⟩
set_option maxHeartbeats 32000000 in
set_option maxRecDepth 100000 in
theorem iparse_8 (t : ByteArray) (hne : t.size ≠ 0) (hmax : t.size ≤ 9223372036854775806) (hd : ∀ c ∈ t.data.toList, octB c = true) (w : World) :
    Calls Tryz.prog 82 #[.string t, .int .i64 8, .int .i64 64] w fun e w' => e = .returned (uintRes (parseB 8 0 t.data.toList)) ∧ Below w.heap.size w w' := by
  have hemp : t.toList.isEmpty = false := by
    rw [← decide_eq_emptyBytes]
    exact decide_eq_false (fun h => hne (by rw [h]; rfl))
  have hcv := Lib.run_convert_string_bytes (P := Tryz.prog) w 9 64 5 t (u := .string) Tryz.underlying9 Tryz.underlying64 Tryz.underlying5
  have hB : ∀ j, j < t.size → (Lib.bytesWorld w 5 t).cell? ⟨w.heap.size, j, none⟩ = some (.int .u8 (t.data.toList.getD j 0).toNat) := fun j hj => Lib.bytesWorld_cell w 5 t j hj
  have hbel : Below w.heap.size w (Lib.bytesWorld w 5 t) := Lib.bytesWorld_below w 5 t
  obtain ⟨W1, hW1⟩ : ∃ W1, W1 = Lib.bytesWorld w 5 t := ⟨_, rfl⟩
  rw [← hW1] at hcv hB hbel
  clear hW1
  obtain ⟨bs, hL⟩ : ∃ bs, bs = t.data.toList := ⟨_, rfl⟩
  have hLn : bs.length = t.size := by rw [hL]; simp
  rw [← hL] at hB hd ⊢
  clear hL
  have HD := hid hd
  clear hd
  have hmv : IntKind.u64.wrap (IntKind.u64.wrap 18446744073709551616 - 1) = 18446744073709551615 := by
    rw [IntKind.wrap_u64, IntKind.wrap_u64]
    decide
  go_enter Tryz.func82, Tryz.ntmps82
  go_wp2_with fail
  go_loop [12, 13, 101] (fun vu vn vi => ∃ (k acc : Nat) (a : Int), vu = .bool false ∧ vn = .int .u64 a ∧ vi = .int .i64 k ∧ k ≤ t.size ∧ Hid (a = (acc : Int) ∧ acc < 18446744073709551616 ∧ parseB 8 0 bs = parseB 8 acc (bs.drop k)))
    (fun _ _ vi => t.size - (intOf vi).toNat)
  case atStart => exact ⟨0, 0, 0, rfl, rfl, rfl, by omega, rfl, by omega, rfl⟩
  case round =>
    obtain ⟨k, acc, a, rfl, rfl, rfl, hk, hh⟩ := hrel
    obtain ⟨ha, hacc, hdec⟩ := hh.out
    clear hh
    have a0 : 0 ≤ a := by omega
    have a1 : a < 18446744073709551616 := by omega
    by_cases hkn : k < t.size
    · have hc := hB k hkn
      have hdrop : bs.drop k = bs[k]'(by omega) :: bs.drop (k + 1) := List.drop_eq_getElem_cons (by omega)
      have hget : bs.getD k 0 = bs[k]'(by omega) := by simp [List.getD, List.getElem?_eq_getElem (show k < bs.length by omega)]
      have hdg := HD.out (bs[k]'(by omega)) (List.getElem_mem _)
      rw [hdrop] at hdec
      rw [hget] at hc
      generalize bs[k]'(by omega) = c at hc hdec hdg
      have hc256 : c.toNat < 256 := c.toNat_lt
      clear hB hdrop hget
      have hdg2 : 48 ≤ c.toNat ∧ c.toNat ≤ 55 := by simpa [octB] using hdg
      have hdv : dv c = c.toNat - 48 := by unfold dv; rw [if_pos (by omega)]
      obtain ⟨hd0, hd1⟩ := hdg2
      clear hdg
      by_cases hcut : 2305843009213693952 ≤ acc
      · have hF : parseB 8 acc (c :: bs.drop (k + 1)) = none := by rw [parseB, if_pos (by omega)]
        have HR := hid (uintRes_none (hdec.trans hF))
        have icut : 2305843009213693952 ≤ a := by omega
        clear hcut hacc hF ha hdec
        clear hdv; go_wp2_with fail
        go_ret2
        exact ⟨by rw [HR.out]; rfl, hbel⟩
      by_cases hov : 18446744073709551616 ≤ acc * 8 + dv c
      · exfalso; omega
      have hF : parseB 8 acc (c :: bs.drop (k + 1)) = parseB 8 (acc * 8 + dv c) (bs.drop (k + 1)) := by rw [parseB, if_neg hov]
      have HN : Hid (a * 8 + ((c.toNat : Int) - 48) = ((acc * 8 + dv c : Nat) : Int) ∧ acc * 8 + dv c < 18446744073709551616 ∧ parseB 8 0 bs = parseB 8 (acc * 8 + dv c) (bs.drop (k + 1))) := hid ⟨by omega, by omega, hdec.trans hF⟩
      have icut : a < 2305843009213693952 := by omega
      have iov : a * 8 + ((c.toNat : Int) - 48) < 18446744073709551616 := by omega
      clear hcut hacc hF hov hdec ha
      clear hdv; go_wp2_with fail
      go_round
      case rel => exact ⟨k + 1, acc * 8 + dv c, a * 8 + ((c.toNat : Int) - 48), rfl, (by first | rfl | (congr 1; omega)), (by first | rfl | (congr 1; omega)), by omega, HN⟩
      case measure => first | (simp [intOf]; done) | (simp [intOf]; omega)
    · have hkk : k = t.size := by omega
      have hF : parseB 8 0 bs = some acc := by rw [hdec, List.drop_eq_nil_of_le (by omega)]; rfl
      have HR := hid (uintRes_some hF)
      have HA := hid ha
      clear ha hdec hF hB
      subst hkk
      go_wp2_with fail
      go_ret2
      exact ⟨by rw [HR.out, HA.out]; rfl, hbel⟩
set_option maxHeartbeats 32000000 in
set_option maxRecDepth 100000 in
theorem iparse_10 (t : ByteArray) (hne : t.size ≠ 0) (hmax : t.size ≤ 9223372036854775806) (hd : ∀ c ∈ t.data.toList, digB c = true) (w : World) :
    Calls Tryz.prog 82 #[.string t, .int .i64 10, .int .i64 64] w fun e w' => e = .returned (uintRes (parseB 10 0 t.data.toList)) ∧ Below w.heap.size w w' := by
  have hemp : t.toList.isEmpty = false := by
    rw [← decide_eq_emptyBytes]
    exact decide_eq_false (fun h => hne (by rw [h]; rfl))
  have hcv := Lib.run_convert_string_bytes (P := Tryz.prog) w 9 64 5 t (u := .string) Tryz.underlying9 Tryz.underlying64 Tryz.underlying5
  have hB : ∀ j, j < t.size → (Lib.bytesWorld w 5 t).cell? ⟨w.heap.size, j, none⟩ = some (.int .u8 (t.data.toList.getD j 0).toNat) := fun j hj => Lib.bytesWorld_cell w 5 t j hj
  have hbel : Below w.heap.size w (Lib.bytesWorld w 5 t) := Lib.bytesWorld_below w 5 t
  obtain ⟨W1, hW1⟩ : ∃ W1, W1 = Lib.bytesWorld w 5 t := ⟨_, rfl⟩
  rw [← hW1] at hcv hB hbel
  clear hW1
  obtain ⟨bs, hL⟩ : ∃ bs, bs = t.data.toList := ⟨_, rfl⟩
  have hLn : bs.length = t.size := by rw [hL]; simp
  rw [← hL] at hB hd ⊢
  clear hL
  have HD := hid hd
  clear hd
  have hmv : IntKind.u64.wrap (IntKind.u64.wrap 18446744073709551616 - 1) = 18446744073709551615 := by
    rw [IntKind.wrap_u64, IntKind.wrap_u64]
    decide
  go_enter Tryz.func82, Tryz.ntmps82
  go_wp2_with fail
  go_loop [12, 13, 101] (fun vu vn vi => ∃ (k acc : Nat) (a : Int), vu = .bool false ∧ vn = .int .u64 a ∧ vi = .int .i64 k ∧ k ≤ t.size ∧ Hid (a = (acc : Int) ∧ acc < 18446744073709551616 ∧ parseB 10 0 bs = parseB 10 acc (bs.drop k)))
    (fun _ _ vi => t.size - (intOf vi).toNat)
  case atStart => exact ⟨0, 0, 0, rfl, rfl, rfl, by omega, rfl, by omega, rfl⟩
  case round =>
    obtain ⟨k, acc, a, rfl, rfl, rfl, hk, hh⟩ := hrel
    obtain ⟨ha, hacc, hdec⟩ := hh.out
    clear hh
    have a0 : 0 ≤ a := by omega
    have a1 : a < 18446744073709551616 := by omega
    by_cases hkn : k < t.size
    · have hc := hB k hkn
      have hdrop : bs.drop k = bs[k]'(by omega) :: bs.drop (k + 1) := List.drop_eq_getElem_cons (by omega)
      have hget : bs.getD k 0 = bs[k]'(by omega) := by simp [List.getD, List.getElem?_eq_getElem (show k < bs.length by omega)]
      have hdg := HD.out (bs[k]'(by omega)) (List.getElem_mem _)
      rw [hdrop] at hdec
      rw [hget] at hc
      generalize bs[k]'(by omega) = c at hc hdec hdg
      have hc256 : c.toNat < 256 := c.toNat_lt
      clear hB hdrop hget
      have hdg2 : 48 ≤ c.toNat ∧ c.toNat ≤ 57 := by simpa [digB] using hdg
      have hdv : dv c = c.toNat - 48 := by unfold dv; rw [if_pos (by omega)]
      obtain ⟨hd0, hd1⟩ := hdg2
      clear hdg
      by_cases hcut : 1844674407370955162 ≤ acc
      · have hF : parseB 10 acc (c :: bs.drop (k + 1)) = none := by rw [parseB, if_pos (by omega)]
        have HR := hid (uintRes_none (hdec.trans hF))
        have icut : 1844674407370955162 ≤ a := by omega
        clear hcut hacc hF ha hdec
        clear hdv; go_wp2_with fail
        go_ret2
        exact ⟨by rw [HR.out]; rfl, hbel⟩
      by_cases hov : 18446744073709551616 ≤ acc * 10 + dv c
      · have hF : parseB 10 acc (c :: bs.drop (k + 1)) = none := by rw [parseB, if_pos hov]
        have HR := hid (uintRes_none (hdec.trans hF))
        have icut : a < 1844674407370955162 := by omega
        have iov : 18446744073709551616 ≤ a * 10 + ((c.toNat : Int) - 48) := by omega
        have hwr : IntKind.u64.wrap (a * 10 + ((c.toNat : Int) - 48)) = a * 10 + ((c.toNat : Int) - 48) - 18446744073709551616 := by
          rw [IntKind.wrap_u64]
          omega
        clear hcut hacc hF hov ha hdec
        clear hdv; go_wp2_with fail
        go_ret2
        exact ⟨by rw [HR.out]; rfl, hbel⟩
      have hF : parseB 10 acc (c :: bs.drop (k + 1)) = parseB 10 (acc * 10 + dv c) (bs.drop (k + 1)) := by rw [parseB, if_neg hov]
      have HN : Hid (a * 10 + ((c.toNat : Int) - 48) = ((acc * 10 + dv c : Nat) : Int) ∧ acc * 10 + dv c < 18446744073709551616 ∧ parseB 10 0 bs = parseB 10 (acc * 10 + dv c) (bs.drop (k + 1))) := hid ⟨by omega, by omega, hdec.trans hF⟩
      have icut : a < 1844674407370955162 := by omega
      have iov : a * 10 + ((c.toNat : Int) - 48) < 18446744073709551616 := by omega
      clear hcut hacc hF hov hdec ha
      clear hdv; go_wp2_with fail
      go_round
      case rel => exact ⟨k + 1, acc * 10 + dv c, a * 10 + ((c.toNat : Int) - 48), rfl, (by first | rfl | (congr 1; omega)), (by first | rfl | (congr 1; omega)), by omega, HN⟩
      case measure => first | (simp [intOf]; done) | (simp [intOf]; omega)
    · have hkk : k = t.size := by omega
      have hF : parseB 10 0 bs = some acc := by rw [hdec, List.drop_eq_nil_of_le (by omega)]; rfl
      have HR := hid (uintRes_some hF)
      have HA := hid ha
      clear ha hdec hF hB
      subst hkk
      go_wp2_with fail
      go_ret2
      exact ⟨by rw [HR.out, HA.out]; rfl, hbel⟩
set_option maxHeartbeats 32000000 in
set_option maxRecDepth 100000 in
theorem iparse_16 (t : ByteArray) (hne : t.size ≠ 0) (hmax : t.size ≤ 9223372036854775806) (hd : ∀ c ∈ t.data.toList, hexB c = true) (w : World) :
    Calls Tryz.prog 82 #[.string t, .int .i64 16, .int .i64 64] w fun e w' => e = .returned (uintRes (parseB 16 0 t.data.toList)) ∧ Below w.heap.size w w' := by
  have hemp : t.toList.isEmpty = false := by
    rw [← decide_eq_emptyBytes]
    exact decide_eq_false (fun h => hne (by rw [h]; rfl))
  have hcv := Lib.run_convert_string_bytes (P := Tryz.prog) w 9 64 5 t (u := .string) Tryz.underlying9 Tryz.underlying64 Tryz.underlying5
  have hB : ∀ j, j < t.size → (Lib.bytesWorld w 5 t).cell? ⟨w.heap.size, j, none⟩ = some (.int .u8 (t.data.toList.getD j 0).toNat) := fun j hj => Lib.bytesWorld_cell w 5 t j hj
  have hbel : Below w.heap.size w (Lib.bytesWorld w 5 t) := Lib.bytesWorld_below w 5 t
  obtain ⟨W1, hW1⟩ : ∃ W1, W1 = Lib.bytesWorld w 5 t := ⟨_, rfl⟩
  rw [← hW1] at hcv hB hbel
  clear hW1
  obtain ⟨bs, hL⟩ : ∃ bs, bs = t.data.toList := ⟨_, rfl⟩
  have hLn : bs.length = t.size := by rw [hL]; simp
  rw [← hL] at hB hd ⊢
  clear hL
  have HD := hid hd
  clear hd
  have hmv : IntKind.u64.wrap (IntKind.u64.wrap 18446744073709551616 - 1) = 18446744073709551615 := by
    rw [IntKind.wrap_u64, IntKind.wrap_u64]
    decide
  go_enter Tryz.func82, Tryz.ntmps82
  go_wp2_with fail
  go_loop [12, 13, 101] (fun vu vn vi => ∃ (k acc : Nat) (a : Int), vu = .bool false ∧ vn = .int .u64 a ∧ vi = .int .i64 k ∧ k ≤ t.size ∧ Hid (a = (acc : Int) ∧ acc < 18446744073709551616 ∧ parseB 16 0 bs = parseB 16 acc (bs.drop k)))
    (fun _ _ vi => t.size - (intOf vi).toNat)
  case atStart => exact ⟨0, 0, 0, rfl, rfl, rfl, by omega, rfl, by omega, rfl⟩
  case round =>
    obtain ⟨k, acc, a, rfl, rfl, rfl, hk, hh⟩ := hrel
    obtain ⟨ha, hacc, hdec⟩ := hh.out
    clear hh
    have a0 : 0 ≤ a := by omega
    have a1 : a < 18446744073709551616 := by omega
    by_cases hkn : k < t.size
    · have hc := hB k hkn
      have hdrop : bs.drop k = bs[k]'(by omega) :: bs.drop (k + 1) := List.drop_eq_getElem_cons (by omega)
      have hget : bs.getD k 0 = bs[k]'(by omega) := by simp [List.getD, List.getElem?_eq_getElem (show k < bs.length by omega)]
      have hdg := HD.out (bs[k]'(by omega)) (List.getElem_mem _)
      rw [hdrop] at hdec
      rw [hget] at hc
      generalize bs[k]'(by omega) = c at hc hdec hdg
      have hc256 : c.toNat < 256 := c.toNat_lt
      clear hB hdrop hget
      cases hdd : digB c
      · obtain ⟨hlw, hl0, hl1⟩ := lower_hex c hdg hdd
        have hnd : ¬ (48 ≤ c.toNat ∧ c.toNat ≤ 57) := by simp [digB] at hdd; omega
        have HND := hid hnd
        have hcl : 57 < c.toNat := by
          have : hexB c = true := hdg
          simp [hexB, hdd] at this; omega
        have h95 : ((c.toNat : Int) == 95) = false := by
          have : hexB c = true := hdg
          simp [hexB, hdd] at this; simp; omega
        clear hdg hdd hnd HND
        obtain ⟨lw, hlw2⟩ : ∃ lw : Int, lw = bits BinOp.or IntKind.u8 (c.toNat : Int) 32 := ⟨_, rfl⟩
        have hl3 : 97 ≤ lw := by omega
        have hl4 : lw ≤ 102 := by omega
        have hdvI : (dv c : Int) = lw - 87 := by omega
        have HLW := hid hlw2
        clear hlw hlw2
        by_cases hcut : 1152921504606846976 ≤ acc
        · have hF : parseB 16 acc (c :: bs.drop (k + 1)) = none := by rw [parseB, if_pos (by omega)]
          have HR := hid (uintRes_none (hdec.trans hF))
          have icut : 1152921504606846976 ≤ a := by omega
          clear hcut hacc hF ha hdec
          have hdvH := hid hdvI; clear hdvI; go_wp2_with ((with_reducible refine (lower_any c _).mono ?_); rintro e w1 ⟨rfl, rfl⟩; rw [← HLW.out])
          go_ret2
          exact ⟨by rw [HR.out]; rfl, hbel⟩
        by_cases hov : 18446744073709551616 ≤ acc * 16 + dv c
        · exfalso; omega
        have hF : parseB 16 acc (c :: bs.drop (k + 1)) = parseB 16 (acc * 16 + dv c) (bs.drop (k + 1)) := by rw [parseB, if_neg hov]
        have HN : Hid (a * 16 + (lw - 97 + 10) = ((acc * 16 + dv c : Nat) : Int) ∧ acc * 16 + dv c < 18446744073709551616 ∧ parseB 16 0 bs = parseB 16 (acc * 16 + dv c) (bs.drop (k + 1))) := hid ⟨by omega, by omega, hdec.trans hF⟩
        have icut : a < 1152921504606846976 := by omega
        have iov : a * 16 + (lw - 97 + 10) < 18446744073709551616 := by omega
        clear hcut hacc hF hov hdec ha
        have hdvH := hid hdvI; clear hdvI; go_wp2_with ((with_reducible refine (lower_any c _).mono ?_); rintro e w1 ⟨rfl, rfl⟩; rw [← HLW.out])
        go_round
        case rel => exact ⟨k + 1, acc * 16 + dv c, a * 16 + (lw - 97 + 10), rfl, (by first | rfl | (congr 1; omega)), (by first | rfl | (congr 1; omega)), by omega, HN⟩
        case measure => first | (simp [intOf]; done) | (simp [intOf]; omega)
      · have hdg2 : 48 ≤ c.toNat ∧ c.toNat ≤ 57 := by simpa [digB] using hdd
        have hdv : dv c = c.toNat - 48 := by unfold dv; rw [if_pos (by omega)]
        obtain ⟨hd0, hd1⟩ := hdg2
        clear hdg hdd
        by_cases hcut : 1152921504606846976 ≤ acc
        · have hF : parseB 16 acc (c :: bs.drop (k + 1)) = none := by rw [parseB, if_pos (by omega)]
          have HR := hid (uintRes_none (hdec.trans hF))
          have icut : 1152921504606846976 ≤ a := by omega
          clear hcut hacc hF ha hdec
          clear hdv; go_wp2_with fail
          go_ret2
          exact ⟨by rw [HR.out]; rfl, hbel⟩
        by_cases hov : 18446744073709551616 ≤ acc * 16 + dv c
        · exfalso; omega
        have hF : parseB 16 acc (c :: bs.drop (k + 1)) = parseB 16 (acc * 16 + dv c) (bs.drop (k + 1)) := by rw [parseB, if_neg hov]
        have HN : Hid (a * 16 + ((c.toNat : Int) - 48) = ((acc * 16 + dv c : Nat) : Int) ∧ acc * 16 + dv c < 18446744073709551616 ∧ parseB 16 0 bs = parseB 16 (acc * 16 + dv c) (bs.drop (k + 1))) := hid ⟨by omega, by omega, hdec.trans hF⟩
        have icut : a < 1152921504606846976 := by omega
        have iov : a * 16 + ((c.toNat : Int) - 48) < 18446744073709551616 := by omega
        clear hcut hacc hF hov hdec ha
        clear hdv; go_wp2_with fail
        go_round
        case rel => exact ⟨k + 1, acc * 16 + dv c, a * 16 + ((c.toNat : Int) - 48), rfl, (by first | rfl | (congr 1; omega)), (by first | rfl | (congr 1; omega)), by omega, HN⟩
        case measure => first | (simp [intOf]; done) | (simp [intOf]; omega)
    · have hkk : k = t.size := by omega
      have hF : parseB 16 0 bs = some acc := by rw [hdec, List.drop_eq_nil_of_le (by omega)]; rfl
      have HR := hid (uintRes_some hF)
      have HA := hid ha
      clear ha hdec hF hB
      subst hkk
      go_wp2_with fail
      go_ret2
      exact ⟨by rw [HR.out, HA.out]; rfl, hbel⟩
end Go.Proofs.YtadmmmehphhecaaGreatDoor
