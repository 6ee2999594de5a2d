/- The walk of sums.constant: the number with which a text begins. Texts of up to a hundred thousand bytes; the library's variables hold what is laid. -/
import Derived.Test.YtadmmmehphhecaaDoorV
set_option linter.unusedVariables false
set_option linter.unusedSimpArgs false
namespace Go.Proofs.YtadmmmehphhecaaDoor
open Go.RowKit
/-- 0: base 10; 1: base 8; 2: base 16 -/
def kindF (l : List UInt8) : Nat :=
  match l with
  | a :: b :: c :: _ => if a.toNat = 48 then if (b.toNat == 120 || b.toNat == 88) = true ∧ hexB c = true then 2 else 1 else 0
  | a :: _ => if a.toNat = 48 then 1 else 0
  | [] => 0
def isF (k : Nat) : UInt8 → Bool := if k = 2 then hexB else if k = 1 then octB else digB
def baseF (k : Nat) : Nat := if k = 2 then 16 else if k = 1 then 8 else 10
def fromF (k : Nat) : Nat := if k = 2 then 2 else 0
/-- the digits of the number with which a text begins -/
def digsF (l : List UInt8) : List UInt8 := (l.drop (fromF (kindF l))).takeWhile (isF (kindF l))
def endF (l : List UInt8) : Nat := fromF (kindF l) + (digsF l).length
/-- the number; none: there is none, or it has more than 64 bits -/
def numF (l : List UInt8) : Option Nat := if digsF l = [] then none else parseB (baseF (kindF l)) 0 (digsF l)
def ConstPost (l : List UInt8) (w : World) (e : Ending) (w' : World) : Prop :=
  Below w.heap.size w w' ∧ ((∃ n, numF l = some n ∧ e = .returned (.tuple #[.int .u64 (n : Int), .int .i64 (endF l : Int), .bool true])) ∨
    (numF l = none ∧ ∃ x : Int, 0 ≤ x ∧ x ≤ 18446744073709551615 ∧ e = .returned (.tuple #[.int .u64 x, .int .i64 (endF l : Int), .bool false])))
theorem ConstPost.ok {l : List UInt8} {w w' : World} {e : Ending} {n m : Nat} (hb : Below w.heap.size w w') (h : numF l = some n) (hm : endF l = m) (he : e = .returned (.tuple #[.int .u64 (n : Int), .int .i64 (m : Int), .bool true])) : ConstPost l w e w' := by
  subst hm; exact ⟨hb, .inl ⟨n, h, he⟩⟩
theorem ConstPost.no {l : List UInt8} {w w' : World} {e : Ending} {x : Int} {m : Nat} (hb : Below w.heap.size w w') (h : numF l = none) (hm : endF l = m) (h0 : 0 ≤ x) (h1 : x ≤ 18446744073709551615) (he : e = .returned (.tuple #[.int .u64 x, .int .i64 (m : Int), .bool false])) : ConstPost l w e w' := by
  subst hm; exact ⟨hb, .inr ⟨h, x, h0, h1, he⟩⟩
theorem takeWhile_take (f : UInt8 → Bool) (l : List UInt8) : l.take (longN f l) = l.takeWhile f := by
  unfold longN
  exact (List.prefix_iff_eq_take.1 (List.takeWhile_prefix f)).symm
theorem digs_all (f : UInt8 → Bool) (l : List UInt8) : ∀ c ∈ l.takeWhile f, f c = true := fun c hc => by
  exact List.all_eq_true.1 (List.all_takeWhile (p := f) (l := l)) c hc
theorem ext_list (s : ByteArray) (a b : Nat) : (s.extract a b).data.toList = (s.data.toList.drop a).take (b - a) := by
  simp only [ByteArray.data_extract, Array.toList_extract, List.extract_eq_take_drop]
theorem ext_size (s : ByteArray) (a b : Nat) : (s.extract a b).size = min b s.size - a := by
  rw [ByteArray.size_extract]
/-- which number a text begins with -/
theorem kind_cases (s : ByteArray) :
    (kindF s.data.toList = 2 ∧ ∃ h : 2 < s.size, s[0].toNat = 48 ∧ (s[1].toNat == 120 || s[1].toNat == 88) = true ∧ hexB s[2] = true) ∨
    (kindF s.data.toList = 1 ∧ ∃ h : 0 < s.size, s[0].toNat = 48 ∧ (s.size ≤ 2 ∨ ∃ h : 2 < s.size, (s[1].toNat == 120 || s[1].toNat == 88) = false ∨ ((s[1].toNat == 120 || s[1].toNat == 88) = true ∧ hexB s[2] = false))) ∨
    (kindF s.data.toList = 0 ∧ (s.size = 0 ∨ ∃ h : 0 < s.size, s[0].toNat ≠ 48)) := by
  have hsz : s.data.toList.length = s.size := by simp
  have hget : ∀ i (h : i < s.size), s[i] = s.data.toList[i]'(by rw [hsz]; exact h) := fun i h => by rw [Array.getElem_toList]; rfl
  generalize hl : s.data.toList = l at *
  match l with
  | [] => right; right; exact ⟨rfl, .inl (by simpa using hsz.symm)⟩
  | [a] =>
    have h0 := hget 0 (by rw [← hsz]; simp)
    simp only [List.getElem_cons_zero] at h0
    simp at hsz
    by_cases ha : a.toNat = 48
    · right; left; exact ⟨by simp [kindF, ha], by omega, by rw [h0, ha], .inl (by omega)⟩
    · right; right; exact ⟨by simp [kindF, ha], .inr ⟨by omega, by rw [h0]; exact ha⟩⟩
  | [a, b] =>
    have h0 := hget 0 (by rw [← hsz]; simp)
    simp only [List.getElem_cons_zero] at h0
    simp at hsz
    by_cases ha : a.toNat = 48
    · right; left; exact ⟨by simp [kindF, ha], by omega, by rw [h0, ha], .inl (by omega)⟩
    · right; right; exact ⟨by simp [kindF, ha], .inr ⟨by omega, by rw [h0]; exact ha⟩⟩
  | a :: b :: c :: r =>
    have h0 := hget 0 (by rw [← hsz]; simp)
    have h1 := hget 1 (by rw [← hsz]; simp)
    have h2 := hget 2 (by rw [← hsz]; simp)
    simp only [List.getElem_cons_zero, List.getElem_cons_succ] at h0 h1 h2
    have h3 : 2 < s.size := by rw [← hsz]; simp
    by_cases ha : a.toNat = 48
    · cases hb : (b.toNat == 120 || b.toNat == 88)
      · right; left; exact ⟨by simp only [kindF]; rw [if_pos ha, if_neg (by rw [hb]; simp)], by omega, by rw [h0, ha], .inr ⟨h3, .inl (by rw [h1]; exact hb)⟩⟩
      · cases hc : hexB c
        · right; left; exact ⟨by simp only [kindF]; rw [if_pos ha, if_neg (by rw [hc]; simp)], by omega, by rw [h0, ha], .inr ⟨h3, .inr ⟨by rw [h1]; exact hb, by rw [h2]; exact hc⟩⟩⟩
        · left; exact ⟨by simp only [kindF]; rw [if_pos ha, if_pos ⟨hb, hc⟩], h3, by rw [h0, ha], by rw [h1]; exact hb, by rw [h2]; exact hc⟩
    · right; right; exact ⟨by simp only [kindF]; rw [if_neg ha], .inr ⟨by omega, by rw [h0]; exact ha⟩⟩
theorem longN_pos (f : UInt8 → Bool) (l : List UInt8) (h : 0 < l.length) (hf : f l[0] = true) : 0 < longN f l := by
  match l, h, hf with
  | a :: r, _, hf => simp only [List.getElem_cons_zero] at hf; simp [longN, List.takeWhile_cons, hf]
theorem below_drewN {B : Nat} {a w : World} (h : Below B a w) (n : Nat) : Below B a (w.drewN n) := h.trans ⟨rfl, rfl, rfl, Nat.le_refl _, fun _ _ => rfl⟩
theorem toList_ne (t : ByteArray) (h : t.size ≠ 0) : t.data.toList ≠ [] := by
  intro e; apply h; have := congrArg List.length e; simpa using this
theorem u8n {c : UInt8} {k : Nat} (h : c.toNat = k) : ((c.toNat : Int) == (k : Int)) = true := by simp [h]
theorem u8f {c : UInt8} {k : Nat} (h : c.toNat ≠ k) : ((c.toNat : Int) == (k : Int)) = false := by simp; omega
set_option maxRecDepth 100000 in
set_option maxHeartbeats 2000000 in
theorem const_hex (s : ByteArray) (w : World) (hL : Laid w) (hs : s.size ≤ 100000) (hk : kindF s.data.toList = 2) (h2 : 2 < s.size) (h0 : s[0].toNat = 48) (h1 : (s[1].toNat == 120 || s[1].toNat == 88) = true) (h3 : hexB s[2] = true) :
    Calls Tryd.prog 35 #[.string s] w (ConstPost s.data.toList w) := by
  have HK := hid hk
  clear hk
  obtain ⟨m, hm⟩ : ∃ m, m = longN hexB (s.extract 2 s.size).data.toList := ⟨_, rfl⟩
  have hm1 : m ≤ s.size - 2 := by
    rw [hm]; refine Nat.le_trans (longN_le _ _) ?_; simp
  have HM := hid hm
  have HD : Hid ((s.extract 2 (2 + m)).data.toList = digsF s.data.toList) := hid (by
    rw [ext_list, digsF, HK.out, Nat.add_sub_cancel_left]
    have e : (s.extract 2 s.size).data.toList = s.data.toList.drop 2 := by rw [ext_list]; apply List.take_of_length_le; simp
    rw [hm, e]; exact takeWhile_take _ _)
  have HE : Hid (endF s.data.toList = 2 + m) := hid (by
    rw [endF, ← HD.out, HK.out]; simp [fromF]; omega)
  have HB : Hid (digsF s.data.toList ≠ [] → numF s.data.toList = parseB 16 0 (digsF s.data.toList)) := hid (fun h => by
    rw [numF, if_neg h, HK.out]; rfl)
  have HA : Hid (∀ c ∈ (s.extract 2 (2 + m)).data.toList, hexB c = true) := hid (by
    rw [HD.out, digsF, HK.out]; exact digs_all _ _)
  have hx := x_eq s[1]
  rw [h1] at hx
  have hx0 : ((s[0].toNat : Int) == 48) = true := u8n h0
  have hmp : 0 < m := by
    rw [hm]; apply longN_pos _ _ (by simp; omega)
    rw [Array.getElem_toList]
    have : (s.extract 2 s.size)[0]'(by simp; omega) = s[2] := by rw [ByteArray.getElem_extract]
    rw [show (s.extract 2 s.size).data[0]'(by simp; omega) = (s.extract 2 s.size)[0]'(by simp; omega) from rfl, this]; exact h3
  have HN : Hid ((s.extract 2 (2 + m)).size ≠ 0 ∧ (s.extract 2 (2 + m)).size ≤ 281474976710656) := hid (by
    rw [ext_size]; omega)
  have HNE : Hid (digsF s.data.toList ≠ []) := hid (by
    rw [← HD.out]; exact toList_ne _ HN.out.1)
  have hsl : (s.extract 2 s.size).size ≤ 9223372036854775807 := by rw [ext_size]; omega
  have hmN : ((2 : Int) + (m : Int)).toNat = 2 + m := by omega
  have H3 := hid h3
  clear hm h1 h0 h3
  go_enter Tryd.func35, Tryd.ntmps35
  go_wp2_with fail
  ((with_reducible refine (hex_any s[2] _).mono ?_); rintro e w1 ⟨rfl, rfl⟩)
  rw [H3.out]
  go_wp2_with fail
  ((with_reducible refine (long_hex _ _ hsl).mono ?_); rintro e w1 ⟨rfl, rfl⟩)
  rw [← HM.out]
  go_wp2_with fail
  ((with_reducible refine (sparse_16 _ HN.out.1 HN.out.2 HA.out _ hL).mono ?_); rintro e w2 ⟨hb2, hres⟩)
  rw [HD.out] at hres
  rcases hres with ⟨n, hn, rfl⟩ | ⟨hn, p, rfl⟩
  · have HF := hid ((HB.out HNE.out).trans hn)
    clear hn
    go_wp2_with fail
    go_quiet (fail)
    go_wp2_with fail
    go_ret3
    exact .ok (below_drewN hb2 _) HF.out HE.out (by go_num)
  · have HF := hid ((HB.out HNE.out).trans hn)
    clear hn
    go_wp2_with fail
    go_quiet (fail)
    go_wp2_with fail
    go_ret3
    exact .no (x := 18446744073709551615) (below_drewN hb2 _) HF.out HE.out (by decide) (by decide) (by go_num)
set_option maxRecDepth 100000 in
set_option maxHeartbeats 2000000 in
theorem const_oct (s : ByteArray) (w : World) (hL : Laid w) (hs : s.size ≤ 100000) (hk : kindF s.data.toList = 1) (h2 : 0 < s.size) (h0 : s[0].toNat = 48) (hc : s.size ≤ 2 ∨ ∃ h : 2 < s.size, (s[1].toNat == 120 || s[1].toNat == 88) = false ∨ ((s[1].toNat == 120 || s[1].toNat == 88) = true ∧ hexB s[2] = false)) :
    Calls Tryd.prog 35 #[.string s] w (ConstPost s.data.toList w) := by
  have HK := hid hk
  clear hk
  obtain ⟨m, hm⟩ : ∃ m, m = longN octB s.data.toList := ⟨_, rfl⟩
  have hm1 : m ≤ s.size := by
    rw [hm]; refine Nat.le_trans (longN_le _ _) ?_; simp
  have HM := hid hm
  have HD : Hid ((s.extract 0 m).data.toList = digsF s.data.toList) := hid (by
    rw [ext_list, digsF, HK.out, Nat.sub_zero, List.drop_zero, hm]; exact takeWhile_take _ _)
  have HE : Hid (endF s.data.toList = m) := hid (by
    rw [endF, ← HD.out, HK.out]; simp [fromF]; omega)
  have HB : Hid (digsF s.data.toList ≠ [] → numF s.data.toList = parseB 8 0 (digsF s.data.toList)) := hid (fun h => by
    rw [numF, if_neg h, HK.out]; rfl)
  have HA : Hid (∀ c ∈ (s.extract 0 m).data.toList, octB c = true) := hid (by
    rw [HD.out, digsF, HK.out]; exact digs_all _ _)
  have hemp : s.toList.isEmpty = false := by
    rw [← decide_eq_emptyBytes]
    exact decide_eq_false (fun h => by rw [h] at h2; exact absurd h2 (by decide))
  have hx0 : ((s[0].toNat : Int) == 48) = true := u8n h0
  have hmp : 0 < m := by
    rw [hm]; apply longN_pos _ _ (by simp; omega)
    rw [Array.getElem_toList]
    rw [show s.data[0]'(by simpa using h2) = s[0] from rfl]; simp [octB, h0]
  have HN : Hid ((s.extract 0 m).size ≠ 0 ∧ (s.extract 0 m).size ≤ 281474976710656) := hid (by
    rw [ext_size]; omega)
  have HNE : Hid (digsF s.data.toList ≠ []) := hid (by
    rw [← HD.out]; exact toList_ne _ HN.out.1)
  clear hm h0
  rcases hc with hc | ⟨hc2, hc | ⟨hc, h3⟩⟩
  · have hd2 : decide ((2 : Int) < (s.size : Int)) = false := by simp; omega
    go_enter Tryd.func35, Tryd.ntmps35
    go_wp2_with fail
    ((with_reducible refine (long_oct s _ (by omega)).mono ?_); rintro e w1 ⟨rfl, rfl⟩)
    rw [← HM.out]
    go_wp2_with fail
    ((with_reducible refine (sparse_8 _ HN.out.1 HN.out.2 HA.out _ hL).mono ?_); rintro e w2 ⟨hb2, hres⟩)
    rw [HD.out] at hres
    rcases hres with ⟨n, hn, rfl⟩ | ⟨hn, p, rfl⟩
    · have HF := hid ((HB.out HNE.out).trans hn)
      clear hn
      go_wp2_with fail
      go_quiet (fail)
      go_wp2_with fail
      go_ret3
      exact .ok (below_drewN hb2 _) HF.out HE.out (by go_num)
    · have HF := hid ((HB.out HNE.out).trans hn)
      clear hn
      go_wp2_with fail
      go_quiet (fail)
      go_wp2_with fail
      go_ret3
      exact .no (x := 18446744073709551615) (below_drewN hb2 _) HF.out HE.out (by decide) (by decide) (by go_num)
  · have hx := x_eq s[1]
    rw [hc] at hx
    go_enter Tryd.func35, Tryd.ntmps35
    go_wp2_with fail
    ((with_reducible refine (long_oct s _ (by omega)).mono ?_); rintro e w1 ⟨rfl, rfl⟩)
    rw [← HM.out]
    go_wp2_with fail
    ((with_reducible refine (sparse_8 _ HN.out.1 HN.out.2 HA.out _ hL).mono ?_); rintro e w2 ⟨hb2, hres⟩)
    rw [HD.out] at hres
    rcases hres with ⟨n, hn, rfl⟩ | ⟨hn, p, rfl⟩
    · have HF := hid ((HB.out HNE.out).trans hn)
      clear hn
      go_wp2_with fail
      go_quiet (fail)
      go_wp2_with fail
      go_ret3
      exact .ok (below_drewN hb2 _) HF.out HE.out (by go_num)
    · have HF := hid ((HB.out HNE.out).trans hn)
      clear hn
      go_wp2_with fail
      go_quiet (fail)
      go_wp2_with fail
      go_ret3
      exact .no (x := 18446744073709551615) (below_drewN hb2 _) HF.out HE.out (by decide) (by decide) (by go_num)
  · have hx := x_eq s[1]
    rw [hc] at hx
    have H3 := hid h3
    clear h3 hc
    go_enter Tryd.func35, Tryd.ntmps35
    go_wp2_with fail
    ((with_reducible refine (hex_any s[2] _).mono ?_); rintro e w1 ⟨rfl, rfl⟩)
    rw [H3.out]
    go_wp2_with fail
    ((with_reducible refine (long_oct s _ (by omega)).mono ?_); rintro e w1 ⟨rfl, rfl⟩)
    rw [← HM.out]
    go_wp2_with fail
    ((with_reducible refine (sparse_8 _ HN.out.1 HN.out.2 HA.out _ hL).mono ?_); rintro e w2 ⟨hb2, hres⟩)
    rw [HD.out] at hres
    rcases hres with ⟨n, hn, rfl⟩ | ⟨hn, p, rfl⟩
    · have HF := hid ((HB.out HNE.out).trans hn)
      clear hn
      go_wp2_with fail
      go_quiet (fail)
      go_wp2_with fail
      go_ret3
      exact .ok (below_drewN hb2 _) HF.out HE.out (by go_num)
    · have HF := hid ((HB.out HNE.out).trans hn)
      clear hn
      go_wp2_with fail
      go_quiet (fail)
      go_wp2_with fail
      go_ret3
      exact .no (x := 18446744073709551615) (below_drewN hb2 _) HF.out HE.out (by decide) (by decide) (by go_num)
set_option maxRecDepth 100000 in
set_option maxHeartbeats 2000000 in
theorem const_dec (s : ByteArray) (w : World) (hL : Laid w) (hs : s.size ≤ 100000) (hk : kindF s.data.toList = 0) (hc : s.size = 0 ∨ ∃ h : 0 < s.size, s[0].toNat ≠ 48) :
    Calls Tryd.prog 35 #[.string s] w (ConstPost s.data.toList w) := by
  have HK := hid hk
  clear hk
  obtain ⟨m, hm⟩ : ∃ m, m = longN digB s.data.toList := ⟨_, rfl⟩
  have hm1 : m ≤ s.size := by
    rw [hm]; refine Nat.le_trans (longN_le _ _) ?_; simp
  have HM := hid hm
  have HD : Hid ((s.extract 0 m).data.toList = digsF s.data.toList) := hid (by
    rw [ext_list, digsF, HK.out, Nat.sub_zero, List.drop_zero, hm]; exact takeWhile_take _ _)
  have HE : Hid (endF s.data.toList = m) := hid (by
    rw [endF, ← HD.out, HK.out]; simp [fromF]; omega)
  have HB : Hid (digsF s.data.toList ≠ [] → numF s.data.toList = parseB 10 0 (digsF s.data.toList)) := hid (fun h => by
    rw [numF, if_neg h, HK.out]; rfl)
  have HA : Hid (∀ c ∈ (s.extract 0 m).data.toList, digB c = true) := hid (by
    rw [HD.out, digsF, HK.out]; exact digs_all _ _)
  have HSZ : Hid ((s.extract 0 m).size = m) := hid (by rw [ext_size]; omega)
  by_cases hmp : m = 0
  · have HZ : Hid (numF s.data.toList = none) := hid (by
      rw [numF, if_pos]; rw [← HD.out]; apply List.eq_nil_of_length_eq_zero; have := HSZ.out; simp at this ⊢; omega)
    have HS : Hid (Lib.parseUintB 64 (s.extract 0 m).data.toList = Lib.NumEnd.syntax) := hid (by
      have : (s.extract 0 m).data.toList = [] := by apply List.eq_nil_of_length_eq_zero; have := HSZ.out; simp at this ⊢; omega
      rw [this]; rfl)
    have HX : Hid ((s.extract 0 m).size ≤ 281474976710656) := hid (by rw [HSZ.out]; omega)
    obtain ⟨te, pe, hv⟩ := hL.synCell
    have HV := hid hv
    clear hv hm hmp
    rcases hc with hc | ⟨h2, h0⟩
    · obtain rfl : s = ⟨#[]⟩ := ByteArray.ext (Array.eq_empty_of_size_eq_zero hc)
      go_enter Tryd.func35, Tryd.ntmps35
      go_wp2_with fail
      ((with_reducible refine (long_digit _ _ (by decide)).mono ?_); rintro e w1 ⟨rfl, rfl⟩)
      rw [show longN digB ByteArray.empty.data.toList = 0 from rfl]
      go_wp2_with fail
      ((with_reducible refine (Tryd.strconv_ParseUint_10_at64_syntax ByteArray.empty (by decide) (by simp [Lib.parseUintB]) (.iface te pe) _ HV.out (.inr ⟨_, _, rfl⟩)).mono ?_); rintro e w2 ⟨N, rfl, _, _, hb2⟩)
      go_wp2_with fail
      go_quiet (fail)
      go_wp2_with fail
      go_ret3
      exact .no (x := 0) (m := 0) (below_drewN hb2 _) rfl rfl (by decide) (by decide) (by go_num)
    · have hx0 : ((s[0].toNat : Int) == 48) = false := u8f h0
      have hemp : s.toList.isEmpty = false := by
        rw [← decide_eq_emptyBytes]
        exact decide_eq_false (fun h => by rw [h] at h2; exact absurd h2 (by decide))
      by_cases hd : 2 < s.size
      all_goals
        go_enter Tryd.func35, Tryd.ntmps35
        go_wp2_with fail
        ((with_reducible refine (long_digit s _ (by omega)).mono ?_); rintro e w1 ⟨rfl, rfl⟩)
        rw [← HM.out]
        go_wp2_with fail
        ((with_reducible refine (Tryd.strconv_ParseUint_10_at64_syntax _ HX.out HS.out (.iface te pe) _ HV.out (.inr ⟨_, _, rfl⟩)).mono ?_); rintro e w2 ⟨N, rfl, _, _, hb2⟩)
        go_wp2_with fail
        go_quiet (fail)
        go_wp2_with fail
        go_ret3
        exact .no (x := 0) (below_drewN hb2 _) HZ.out HE.out (by decide) (by decide) (by go_num)
  · have HN : Hid ((s.extract 0 m).size ≠ 0 ∧ (s.extract 0 m).size ≤ 281474976710656) := hid (by
      rw [HSZ.out]; omega)
    have HNE : Hid (digsF s.data.toList ≠ []) := hid (by
      rw [← HD.out]; exact toList_ne _ HN.out.1)
    rcases hc with hc | ⟨h2, h0⟩
    · omega
    · have hx0 : ((s[0].toNat : Int) == 48) = false := u8f h0
      have hemp : s.toList.isEmpty = false := by
        rw [← decide_eq_emptyBytes]
        exact decide_eq_false (fun h => by rw [h] at h2; exact absurd h2 (by decide))
      clear hm hmp
      by_cases hd : 2 < s.size
      all_goals
        go_enter Tryd.func35, Tryd.ntmps35
        go_wp2_with fail
        ((with_reducible refine (long_digit s _ (by omega)).mono ?_); rintro e w1 ⟨rfl, rfl⟩)
        rw [← HM.out]
        go_wp2_with fail
        ((with_reducible refine (sparse_10 _ HN.out.1 HN.out.2 HA.out _ hL).mono ?_); rintro e w2 ⟨hb2, hres⟩)
        rw [HD.out] at hres
        rcases hres with ⟨n, hn, rfl⟩ | ⟨hn, p, rfl⟩
        · have HF := hid ((HB.out HNE.out).trans hn)
          clear hn
          go_wp2_with fail
          go_quiet (fail)
          go_wp2_with fail
          go_ret3
          exact .ok (below_drewN hb2 _) HF.out HE.out (by go_num)
        · have HF := hid ((HB.out HNE.out).trans hn)
          clear hn
          go_wp2_with fail
          go_quiet (fail)
          go_wp2_with fail
          go_ret3
          exact .no (x := 18446744073709551615) (below_drewN hb2 _) HF.out HE.out (by decide) (by decide) (by go_num)
theorem constant_any (s : ByteArray) (w : World) (hL : Laid w) (hs : s.size ≤ 100000) : Calls Tryd.prog 35 #[.string s] w (ConstPost s.data.toList w) := by
  rcases kind_cases s with ⟨hk, h, h0, h1, h2⟩ | ⟨hk, h, h0, h1⟩ | ⟨hk, h⟩
  · exact const_hex s w hL hs hk h h0 h1 h2
  · exact const_oct s w hL hs hk h h0 h1
  · exact const_dec s w hL hs hk h
end Go.Proofs.YtadmmmehphhecaaDoor
