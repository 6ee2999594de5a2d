/- The walk of sums.Number. -/
import Derived.Test.YtadmmmehphhecaaGreatDoorD
import Derived.Test.YtadmmmehphhecaaGreatDoorN
import Derived.Shelf.Strings.SlTrimAscii
set_option linter.unusedVariables false
set_option linter.unusedSimpArgs false
namespace Go.Proofs.YtadmmmehphhecaaGreatDoor
open Go.RowKit
def blks : List UInt8 := [9, 10, 11, 12, 13, 32]
theorem strim_any (s : ByteArray) (w : World) (hs : s.size ≤ 9223372036854775807) : Calls Tryz.prog 23 #[.string s, .string ⟨#[9, 10, 11, 12, 13, 32]⟩] w fun e w' => e = .returned (.string ⟨(Lib.trimS s.data.toList blks).toArray⟩) ∧ Below w.heap.size w w' :=
  Any.strings_Trim_laid Tryz.lays160 (by kernel_rfl) s ⟨#[9, 10, 11, 12, 13, 32]⟩ w hs (by decide) (by
    intro j b hb
    have := List.mem_of_getElem? hb
    simp at this
    rcases this with rfl | rfl | rfl | rfl | rfl | rfl <;> decide)
/-- the number of what stands behind the sign -/
def signF (less : Bool) (q : List UInt8) : Int × Int :=
  match numF q with
  | some n => if endF q = q.length ∧ n ≤ (if less then 9223372036854775808 else 9223372036854775807) then (if less then -(n : Int) else (n : Int), 0) else (0, 23)
  | none => (0, 23)
theorem signF_ok {less : Bool} {q : List UInt8} {n : Nat} (hn : numF q = some n) (hE : endF q = q.length) (h : n ≤ (if less then 9223372036854775808 else 9223372036854775807)) : signF less q = (if less then -(n : Int) else (n : Int), 0) := by
  unfold signF; rw [hn]; exact if_pos ⟨hE, h⟩
theorem signF_no {less : Bool} {q : List UInt8} {n : Nat} (hn : numF q = some n) (h : ¬ (endF q = q.length ∧ n ≤ (if less then 9223372036854775808 else 9223372036854775807))) : signF less q = (0, 23) := by
  unfold signF; rw [hn]; exact if_neg h
theorem signF_none {less : Bool} {q : List UInt8} (hn : numF q = none) : signF less q = (0, 23) := by unfold signF; rw [hn]
def numberF (l : List UInt8) : Int × Int :=
  match l with
  | [] => (0, 0)
  | c :: r => if c.toNat = 45 then signF true r else if c.toNat = 43 then signF false r else signF false l
def numV (p : Int × Int) : Value := .tuple #[.int .i64 p.1, .int .i64 p.2]
set_option maxRecDepth 100000 in
set_option maxHeartbeats 4000000 in
theorem number_plain (s t : ByteArray) (w : World) (hs : s.size ≤ 100) (hL : Laid w) (ht : (⟨(Lib.trimS s.data.toList blks).toArray⟩ : ByteArray) = t) (hts : t.size ≤ 100000) (h0 : 0 < t.size) (h1 : ¬ t[0].toNat = 45) (h2 : ¬ t[0].toNat = 43) :
    Calls Tryz.prog 7 #[.string s] w fun e w' => e = .returned (numV (signF false t.data.toList)) ∧ Below w.heap.size w w' := by
  have HL := hid hL
  have HT := hid ht
  have hemp : t.toList.isEmpty = false := by
    rw [← decide_eq_emptyBytes]; simp; intro h; rw [h] at h0; simp at h0
  have hne : ((t[0].toNat : Int) == 45) = false := by simp; omega
  have hnp : ((t[0].toNat : Int) == 43) = false := by simp; omega
  have hsl : t.data.toList.length = t.size := by simp
  have HSL := hid hsl
  clear hL ht hsl
  go_enter Tryz.func7, Tryz.ntmps7
  go_wp2_with fail
  ((with_reducible refine (strim_any s _ (by omega)).mono ?_); rintro e w1 ⟨rfl, hb1⟩)
  rw [HT.out]
  go_wp2_with fail
  ((with_reducible refine (constant_any t _ (HL.out.below hb1) hts).mono ?_); rintro e w2 ⟨hb2, hpost⟩)
  have HB := hid (hb1.trans (hb2.mono hb1.size))
  clear hb1 hb2
  rcases hpost with ⟨n, hn, rfl⟩ | ⟨hn, x, hx0, hx1, rfl⟩
  · have HN := hid hn
    obtain ⟨E, hE⟩ : ∃ E, E = endF t.data.toList := ⟨_, rfl⟩
    rw [← hE]
    have HE := hid hE
    have hE5 : E ≤ 100000 := by have := endF_le t.data.toList; have := HSL.out; omega
    clear hn hE
    by_cases hc : E = t.size
    · by_cases hm : n ≤ 9223372036854775807
      · have hcI : (E : Int) = (t.size : Int) := by omega
        have hmI : (n : Int) ≤ 9223372036854775807 := by omega
        have hw : IntKind.i64.wrap (n : Int) = (n : Int) := IntWalk.i64_in _ (by omega)
        have HC := hid hc
        clear hc
        go_wp2_with fail
        go_ret2
        refine ⟨ret_val ?_, HB.out⟩
        rw [signF_ok (less := false) HN.out (by rw [← HE.out, HSL.out]; exact HC.out) (by simpa using hm)]; rfl
      · have hmI : (9223372036854775807 : Int) < (n : Int) := by omega
        have hcI : (E : Int) = (t.size : Int) := by omega
        have HC := hid hc
        clear hc
        go_wp2_with fail
        go_ret2
        refine ⟨ret_val ?_, HB.out⟩
        rw [signF_no (less := false) HN.out (fun h => hm (by simpa using h.2))]; rfl
    · have hcI : ¬ (E : Int) = (t.size : Int) := by omega
      go_wp2_with fail
      go_ret2
      refine ⟨ret_val ?_, HB.out⟩
      rw [signF_no (less := false) HN.out (fun h => hc (by rw [HE.out, h.1, HSL.out]))]; rfl
  · have hr : numV (signF false t.data.toList) = .tuple #[.int .i64 0, .int .i64 23] := by unfold signF; rw [hn]; rfl
    clear hn
    go_wp2_with fail
    go_ret2
    exact ⟨ret_val hr.symm, HB.out⟩
set_option maxRecDepth 100000 in
set_option maxHeartbeats 4000000 in
theorem number_neg (s t : ByteArray) (w : World) (hs : s.size ≤ 100) (hL : Laid w) (ht : (⟨(Lib.trimS s.data.toList blks).toArray⟩ : ByteArray) = t) (hts : t.size ≤ 100000) (h0 : 0 < t.size) (h1 : t[0].toNat = 45) (q : ByteArray) (hq : q = t.extract 1 t.size) :
    Calls Tryz.prog 7 #[.string s] w fun e w' => e = .returned (numV (signF true q.data.toList)) ∧ Below w.heap.size w w' := by
  have HL := hid hL
  have HT := hid ht
  have hemp : t.toList.isEmpty = false := by
    rw [← decide_eq_emptyBytes]; simp; intro h; rw [h] at h0; simp at h0
  have hne : ((t[0].toNat : Int) == 45) = true := by simp; omega
  have hsl : q.data.toList.length = q.size := by simp
  have hqs : q.size ≤ 100000 := by rw [hq]; simp; omega
  have HQ := hid hq
  have HSL := hid hsl
  clear hL ht hsl hq
  go_enter Tryz.func7, Tryz.ntmps7
  go_wp2_with fail
  ((with_reducible refine (strim_any s _ (by omega)).mono ?_); rintro e w1 ⟨rfl, hb1⟩)
  rw [HT.out]
  go_wp2_with fail
  rw [← HQ.out]
  ((with_reducible refine (constant_any q _ (HL.out.below hb1) hqs).mono ?_); rintro e w2 ⟨hb2, hpost⟩)
  have HB := hid (hb1.trans (hb2.mono hb1.size))
  clear hb1 hb2
  rcases hpost with ⟨n, hn, rfl⟩ | ⟨hn, x, hx0, hx1, rfl⟩
  · have HN := hid hn
    obtain ⟨E, hE⟩ : ∃ E, E = endF q.data.toList := ⟨_, rfl⟩
    rw [← hE]
    have HE := hid hE
    have hE5 : E ≤ 100000 := by have := endF_le q.data.toList; have := HSL.out; omega
    clear hn hE
    by_cases hc : E = q.size
    · by_cases hm : n ≤ 9223372036854775808
      · have hcI : (E : Int) = (q.size : Int) := by omega
        have hmI : (n : Int) ≤ 9223372036854775808 := by omega
        have hw : IntKind.i64.wrap (IntKind.u64.wrap (-(n : Int))) = -(n : Int) := by simp [IntKind.wrap, IntKind.signed, IntKind.bits]; omega
        have HC := hid hc
        clear hc
        go_wp2_with fail
        go_ret2
        refine ⟨ret_val ?_, HB.out⟩
        rw [signF_ok (less := true) HN.out (by rw [← HE.out, HSL.out]; exact HC.out) (by simpa using hm)]; rfl
      · have hmI : (9223372036854775808 : Int) < (n : Int) := by omega
        have hcI : (E : Int) = (q.size : Int) := by omega
        have HC := hid hc
        clear hc
        go_wp2_with fail
        go_ret2
        refine ⟨ret_val ?_, HB.out⟩
        rw [signF_no (less := true) HN.out (fun h => hm (by simpa using h.2))]; rfl
    · have hcI : ¬ (E : Int) = (q.size : Int) := by omega
      go_wp2_with fail
      go_ret2
      refine ⟨ret_val ?_, HB.out⟩
      rw [signF_no (less := true) HN.out (fun h => hc (by rw [HE.out, h.1, HSL.out]))]; rfl
  · have hr : numV (signF true q.data.toList) = .tuple #[.int .i64 0, .int .i64 23] := by unfold signF; rw [hn]; rfl
    clear hn
    go_wp2_with fail
    go_ret2
    exact ⟨ret_val hr.symm, HB.out⟩
set_option maxRecDepth 100000 in
set_option maxHeartbeats 4000000 in
theorem number_pos (s t : ByteArray) (w : World) (hs : s.size ≤ 100) (hL : Laid w) (ht : (⟨(Lib.trimS s.data.toList blks).toArray⟩ : ByteArray) = t) (hts : t.size ≤ 100000) (h0 : 0 < t.size) (h1 : t[0].toNat = 43) (q : ByteArray) (hq : q = t.extract 1 t.size) :
    Calls Tryz.prog 7 #[.string s] w fun e w' => e = .returned (numV (signF false q.data.toList)) ∧ Below w.heap.size w w' := by
  have HL := hid hL
  have HT := hid ht
  have hemp : t.toList.isEmpty = false := by
    rw [← decide_eq_emptyBytes]; simp; intro h; rw [h] at h0; simp at h0
  have hne : ((t[0].toNat : Int) == 45) = false := by simp; omega
  have hnp : ((t[0].toNat : Int) == 43) = true := by simp; omega
  have hsl : q.data.toList.length = q.size := by simp
  have hqs : q.size ≤ 100000 := by rw [hq]; simp; omega
  have HQ := hid hq
  have HSL := hid hsl
  clear hL ht hsl hq
  go_enter Tryz.func7, Tryz.ntmps7
  go_wp2_with fail
  ((with_reducible refine (strim_any s _ (by omega)).mono ?_); rintro e w1 ⟨rfl, hb1⟩)
  rw [HT.out]
  go_wp2_with fail
  rw [← HQ.out]
  ((with_reducible refine (constant_any q _ (HL.out.below hb1) hqs).mono ?_); rintro e w2 ⟨hb2, hpost⟩)
  have HB := hid (hb1.trans (hb2.mono hb1.size))
  clear hb1 hb2
  rcases hpost with ⟨n, hn, rfl⟩ | ⟨hn, x, hx0, hx1, rfl⟩
  · have HN := hid hn
    obtain ⟨E, hE⟩ : ∃ E, E = endF q.data.toList := ⟨_, rfl⟩
    rw [← hE]
    have HE := hid hE
    have hE5 : E ≤ 100000 := by have := endF_le q.data.toList; have := HSL.out; omega
    clear hn hE
    by_cases hc : E = q.size
    · by_cases hm : n ≤ 9223372036854775807
      · have hcI : (E : Int) = (q.size : Int) := by omega
        have hmI : (n : Int) ≤ 9223372036854775807 := by omega
        have hw : IntKind.i64.wrap (n : Int) = (n : Int) := IntWalk.i64_in _ (by omega)
        have HC := hid hc
        clear hc
        go_wp2_with fail
        go_ret2
        refine ⟨ret_val ?_, HB.out⟩
        rw [signF_ok (less := false) HN.out (by rw [← HE.out, HSL.out]; exact HC.out) (by simpa using hm)]; rfl
      · have hmI : (9223372036854775807 : Int) < (n : Int) := by omega
        have hcI : (E : Int) = (q.size : Int) := by omega
        have HC := hid hc
        clear hc
        go_wp2_with fail
        go_ret2
        refine ⟨ret_val ?_, HB.out⟩
        rw [signF_no (less := false) HN.out (fun h => hm (by simpa using h.2))]; rfl
    · have hcI : ¬ (E : Int) = (q.size : Int) := by omega
      go_wp2_with fail
      go_ret2
      refine ⟨ret_val ?_, HB.out⟩
      rw [signF_no (less := false) HN.out (fun h => hc (by rw [HE.out, h.1, HSL.out]))]; rfl
  · have hr : numV (signF false q.data.toList) = .tuple #[.int .i64 0, .int .i64 23] := by unfold signF; rw [hn]; rfl
    clear hn
    go_wp2_with fail
    go_ret2
    exact ⟨ret_val hr.symm, HB.out⟩
theorem number_nil (s t : ByteArray) (w : World) (hs : s.size ≤ 100) (ht : (⟨(Lib.trimS s.data.toList blks).toArray⟩ : ByteArray) = t) (h0 : t.size = 0) :
    Calls Tryz.prog 7 #[.string s] w fun e w' => e = .returned (numV (0, 0)) ∧ Below w.heap.size w w' := by
  have HT := hid ht
  have hte : t = ByteArray.empty := ByteArray.ext (Array.eq_empty_of_size_eq_zero h0)
  have hemp : t.toList.isEmpty = true := by
    rw [← decide_eq_emptyBytes]; simpa using hte
  clear ht h0 hte
  go_enter Tryz.func7, Tryz.ntmps7
  go_wp2_with fail
  ((with_reducible refine (strim_any s _ (by omega)).mono ?_); rintro e w1 ⟨rfl, hb1⟩)
  rw [HT.out]
  go_wp2_with fail
  go_ret2
  exact ⟨rfl, hb1⟩
theorem number_any (s : ByteArray) (w : World) (hs : s.size ≤ 100) (hL : Laid w) (hl : (Lib.trimS s.data.toList blks).length ≤ 100000) :
    Calls Tryz.prog 7 #[.string s] w fun e w' => e = .returned (numV (numberF (Lib.trimS s.data.toList blks))) ∧ Below w.heap.size w w' := by
  obtain ⟨t, ht⟩ : ∃ t : ByteArray, (⟨(Lib.trimS s.data.toList blks).toArray⟩ : ByteArray) = t := ⟨_, rfl⟩
  have htl : t.data.toList = Lib.trimS s.data.toList blks := by rw [← ht]
  have hsl : t.data.toList.length = t.size := by simp
  have hts : t.size ≤ 100000 := by rw [← hsl, htl]; exact hl
  rw [← htl]
  by_cases h0 : t.size = 0
  · have hn : t.data.toList = [] := by apply List.eq_nil_of_length_eq_zero; omega
    rw [hn]; exact number_nil s t w hs ht h0
  · have h0' : 0 < t.size := by omega
    have hc : t.data.toList = t[0] :: t.data.toList.drop 1 := by
      have := List.drop_eq_getElem_cons (l := t.data.toList) (i := 0) (by omega)
      rw [Array.getElem_toList, List.drop_zero] at this; exact this
    have hqd : (t.extract 1 t.size).data.toList = t.data.toList.drop 1 := by
      rw [ext_list, List.take_of_length_le]
      rw [List.length_drop]; omega
    by_cases h1 : t[0].toNat = 45
    · have hf : numberF t.data.toList = signF true (t.extract 1 t.size).data.toList := by rw [hqd]; rw [hc]; exact if_pos h1
      rw [hf]; exact number_neg s t w hs hL ht hts h0' h1 _ rfl
    · by_cases h2 : t[0].toNat = 43
      · have hf : numberF t.data.toList = signF false (t.extract 1 t.size).data.toList := by rw [hqd]; rw [hc]; exact (if_neg h1).trans (if_pos h2)
        rw [hf]; exact number_pos s t w hs hL ht hts h0' h2 _ rfl
      · have hf : numberF t.data.toList = signF false t.data.toList := by
          have : numberF (t[0] :: t.data.toList.drop 1) = signF false (t[0] :: t.data.toList.drop 1) := (if_neg h1).trans (if_neg h2)
          rw [← hc] at this; exact this
        rw [hf]; exact number_plain s t w hs hL ht hts h0' h1 h2
end Go.Proofs.YtadmmmehphhecaaGreatDoor
