/- The walk of whelkref16.kind; and whelkref16.Whole as a plain function, which is that of fields.Whole. No condition. -/
import Derived.Test.YtfadbbpnhppkpaaW7
import Derived.Test.YtfadbbpnhppkpaaW6
set_option linter.unusedVariables false
set_option linter.unusedSimpArgs false
namespace Go.Proofs.Ytfadbbpnhppkpaa
open Go.RowKit
attribute [local go_sem ↓] Go.wp_at_zero Go.wp_at_succ

def kindOf (ifs : List UInt8) (kd : Int) (c : UInt8) : Int :=
  if softB ifs (kd, c) then (if blankB c then 4 else 5) else if byteB kd then 1 else if kd == 3 then 2 else if kd == 4 then 3 else 0

theorem u8_comm (a b : UInt8) : (a == b) = (b == a) := by rw [Bool.eq_iff_iff, beq_iff_eq, beq_iff_eq]; exact eq_comm
theorem u8_lit (c : UInt8) (n : Nat) (h : n < 256) : ((c.toNat : Int) == (n : Int)) = (c == UInt8.ofNat n) := by
  have := u8_eq c (UInt8.ofNat n)
  rw [show ((UInt8.ofNat n).toNat : Int) = (n : Int) by rw [UInt8.toNat_ofNat_of_lt' h]] at this
  exact this

set_option maxHeartbeats 1000000 in
theorem kind_any (kd : Int) (c : UInt8) (ifs : ByteArray) (w : World) (hs : ifs.size ≤ 9223372036854775807) :
    Calls Try.prog 27 #[.agg #[.int .i64 kd, .int .u8 (c.toNat : Int)], .string ifs] w fun e w' => e = .returned (.int .i64 (kindOf ifs.data.toList kd c)) ∧ w.alloc (.cells #[.int .i64 kd, .int .u8 (c.toNat : Int)] 56) = w' := by
  have hblank : blankB c = ((c == 32) || ((c == 9) || (c == 10))) := by
    simp only [blankB, hasB, List.any_cons, List.any_nil, Bool.or_false]
    rw [u8_comm 32, u8_comm 9, u8_comm 10]
  have f1 := u8_lit c 9 (by decide)
  have f2 := u8_lit c 10 (by decide)
  have f3 := u8_lit c 32 (by decide)
  cases hk2 : (kd == 2) with
  | true =>
    have hkd : kd = 2 := by simpa using hk2
    subst hkd
    cases hh : hasB ifs.data.toList c with
    | true =>
      have HR := hid (show kindOf ifs.data.toList 2 c = if blankB c then 4 else 5 by simp [kindOf, softB, hh])
      have HH := hid hh
      have HB := hid hblank
      clear hblank hh
      cases g1 : (c == (9 : UInt8)) <;> cases g2 : (c == (10 : UInt8)) <;> cases g3 : (c == (32 : UInt8))
      all_goals
        have e1 : ((c.toNat : Int) == 9) = _ := f1.trans g1
        have e2 : ((c.toNat : Int) == 10) = _ := f2.trans g2
        have e3 : ((c.toNat : Int) == 32) = _ := f3.trans g3
        have HF := hid (show blankB c = _ by rw [HB.out, g1, g2, g3])
        clear g1 g2 g3 f1 f2 f3
        go_enter Try.func27, Try.ntmps27
        go_wp2_with fail
        refine (refin_any ifs c _ hs).mono ?_; rintro e wx ⟨rfl, rfl⟩
        rw [HH.out]
        go_wp2
        go_ret
        exact ⟨ret_int (by rw [HR.out, HF.out]; rfl), rfl⟩
    | false =>
      have HR := hid (show kindOf ifs.data.toList 2 c = 1 by simp [kindOf, softB, hh, byteB])
      have HH := hid hh
      clear hblank hh f1 f2 f3
      go_enter Try.func27, Try.ntmps27
      go_wp2_with fail
      refine (refin_any ifs c _ hs).mono ?_; rintro e wx ⟨rfl, rfl⟩
      rw [HH.out]
      go_wp2
      go_ret
      exact ⟨ret_int HR.out.symm, rfl⟩
  | false =>
    have hsf : softB ifs.data.toList (kd, c) = false := soft_no _ _ _ hk2
    clear hblank f1 f2 f3
    cases hby : byteB kd with
    | true =>
      have HR := hid (show kindOf ifs.data.toList kd c = 1 by simp [kindOf, hsf, hby])
      simp only [byteB, Bool.and_eq_true, decide_eq_true_eq] at hby
      obtain ⟨b0, b2⟩ := hby
      clear hsf
      go_enter Try.func27, Try.ntmps27
      go_wp2
      go_ret
      exact ⟨ret_int HR.out.symm, rfl⟩
    | false =>
      cases h3 : (kd == 3) with
      | true =>
        have hkd : kd = 3 := by simpa using h3
        subst hkd
        have HR := hid (show kindOf ifs.data.toList 3 c = 2 by simp [kindOf, hsf, hby])
        clear hsf hby
        go_enter Try.func27, Try.ntmps27
        go_wp2
        go_ret
        exact ⟨ret_int HR.out.symm, rfl⟩
      | false =>
        cases h4 : (kd == 4) with
        | true =>
          have hkd : kd = 4 := by simpa using h4
          subst hkd
          have HR := hid (show kindOf ifs.data.toList 4 c = 3 by simp [kindOf, hsf, hby])
          clear hsf hby
          go_enter Try.func27, Try.ntmps27
          go_wp2
          go_ret
          exact ⟨ret_int HR.out.symm, rfl⟩
        | false =>
          have HR := hid (show kindOf ifs.data.toList kd c = 0 by simp [kindOf, hsf, hby, h3, h4])
          by_cases h0 : 0 ≤ kd
          · have h2 : ¬ kd ≤ 2 := fun h => by simp [byteB, h0, h] at hby
            clear hsf hby
            go_enter Try.func27, Try.ntmps27
            go_wp2
            go_ret
            exact ⟨ret_int HR.out.symm, rfl⟩
          · clear hsf hby
            go_enter Try.func27, Try.ntmps27
            go_wp2
            go_ret
            exact ⟨ret_int HR.out.symm, rfl⟩

/-- whelkref16.Whole, as its text goes -/
structure RW where
  out : List (UInt8 × Bool)
  last : Int
  cut : Bool
def rwstep (s : RW) (k : Nat) (b : Int × UInt8) : RW :=
  let cut1 := s.cut || b.1 == 4
  if decide (b.1 < 0) || decide (3 < b.1) then ⟨s.out, s.last, cut1⟩
  else ⟨(if cut1 && decide (0 ≤ s.last) then s.out ++ [(32, false)] else s.out) ++ (if b.1 < 3 then [(b.2, b.1 == 1)] else []), k, false⟩
def rwrun (l : List (Int × UInt8)) : Nat → RW
  | 0 => ⟨[], -1, false⟩
  | k + 1 => rwstep (rwrun l k) k (l[k]?.getD (0, 0))
theorem rwrun_len (l : List (Int × UInt8)) (k : Nat) : (rwrun l k).out.length ≤ 2 * k := by
  induction k with
  | zero => simp [rwrun]
  | succ k ih =>
    simp only [rwrun, rwstep]
    (repeat' split) <;> simp <;> omega
theorem rwrun_last (l : List (Int × UInt8)) (k : Nat) : -1 ≤ (rwrun l k).last ∧ (rwrun l k).last < k := by
  induction k with
  | zero => simp [rwrun]
  | succ k ih =>
    simp only [rwrun, rwstep]
    split <;> simp <;> omega
/-- it is the plain function of fields.Whole -/
theorem rwrun_eq (l : List (Int × UInt8)) (k : Nat) (h : k ≤ l.length) : (rwrun l k).out = (wrun ⟨[], false, false⟩ (l.take k)).out ∧ decide (0 ≤ (rwrun l k).last) = (wrun ⟨[], false, false⟩ (l.take k)).sm ∧ ((rwrun l k).cut && decide (0 ≤ (rwrun l k).last)) = (wrun ⟨[], false, false⟩ (l.take k)).due := by
  induction k with
  | zero => exact ⟨rfl, rfl, rfl⟩
  | succ k ih =>
    obtain ⟨h1, h2, h3⟩ := ih (by omega)
    rw [wrun_snoc _ l k (by omega)]
    have hg : l[k]?.getD (0, 0) = l[k] := by simp [List.getElem?_eq_getElem (show k < l.length by omega)]
    simp only [rwrun, hg]
    obtain ⟨kd, c⟩ := l[k]
    generalize rwrun l k = s at *
    generalize wrun ⟨[], false, false⟩ (l.take k) = t at *
    obtain ⟨o1, la, cu⟩ := s
    obtain ⟨o2, sm, due⟩ := t
    simp only at h1 h2 h3
    subst h1 h2 h3
    by_cases h4 : kd = 4
    · subst h4
      have e : rwstep ⟨o1, la, cu⟩ k (4, c) = ⟨o1, la, true⟩ := by simp [rwstep]
      rw [wstep_cut, e]
      exact ⟨rfl, rfl, by cases cu <;> simp⟩
    · have b4 : (kd == 4) = false := by simpa using h4
      cases hby : byteB kd with
      | true =>
        have e : rwstep ⟨o1, la, cu⟩ k (kd, c) = ⟨(if cu && decide (0 ≤ la) then o1 ++ [(32, false)] else o1) ++ [(c, kd == 1)], k, false⟩ := by
          simp only [byteB, Bool.and_eq_true, decide_eq_true_eq] at hby
          simp only [rwstep, b4, Bool.or_false]
          rw [if_neg (by simp; omega), if_pos (show kd < 3 by omega)]
        rw [wstep_byte _ kd c hby, e]
        exact ⟨rfl, by simp, rfl⟩
      | false =>
        by_cases h3 : kd = 3
        · subst h3
          have e : rwstep ⟨o1, la, cu⟩ k (3, c) = ⟨if cu && decide (0 ≤ la) then o1 ++ [(32, false)] else o1, k, false⟩ := by
            simp [rwstep]
          rw [wstep_mark, e]
          exact ⟨rfl, by simp, rfl⟩
        · have hr : kd < 0 ∨ 3 < kd := by
            simp [byteB] at hby; omega
          have e : rwstep ⟨o1, la, cu⟩ k (kd, c) = ⟨o1, la, cu⟩ := by
            simp only [rwstep, b4, Bool.or_false]
            rw [if_pos (by simpa using hr)]
          rw [wstep_none _ kd c hby (by simpa using h3) b4, e]
          exact ⟨rfl, rfl, rfl⟩
end Go.Proofs.Ytfadbbpnhppkpaa
