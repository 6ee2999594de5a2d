/- The walk of FieldsEnds: it returns true at every input; with the plain law beneath it. No condition but that lengths fit an int. -/
import Derived.Test.YtfadbbpnhppkpaaW5
import Derived.WalkSpells
set_option linter.unusedVariables false
set_option linter.unusedSimpArgs false
namespace Go.Proofs.Ytfadbbpnhppkpaa
open Go.RowKit

def rep (k : Nat) (c : UInt8) : List UInt8 := List.replicate k c
theorem rep_succ (k : Nat) (c : UInt8) : rep (k + 1) c = rep k c ++ [c] := by simp [rep, List.replicate_succ']
def tw (c : UInt8) (r l : List UInt8) : List UInt8 := l.flatMap fun x => if x == c then x :: r else [x]
theorem tw_snoc (c : UInt8) (r l : List UInt8) (k : Nat) (h : k < l.length) : tw c r (l.take (k + 1)) = tw c r (l.take k) ++ (if l[k] == c then l[k] :: r else [l[k]]) := by
  unfold tw; rw [List.take_succ_eq_append_getElem h, List.flatMap_append]; simp
theorem tw_len (c : UInt8) (r l : List UInt8) : (tw c r l).length ≤ l.length * (r.length + 1) := by
  induction l with
  | nil => simp [tw]
  | cons a t ih =>
    have : (if a == c then a :: r else [a]).length ≤ r.length + 1 := by split <;> simp
    simp only [tw, List.flatMap_cons, List.length_append, List.length_cons] at ih ⊢
    rw [Nat.add_mul]; omega
theorem str_app1 (a : List UInt8) (c : Array UInt8) : ((⟨a.toArray⟩ : ByteArray) ++ (⟨c⟩ : ByteArray)) = ⟨(a ++ c.toList).toArray⟩ := by
  apply ByteArray.ext; simp [ByteArray.data_append]
theorem str_app2 (a b : List UInt8) (c : Array UInt8) : (((⟨a.toArray⟩ : ByteArray) ++ (⟨c⟩ : ByteArray)) ++ (⟨b.toArray⟩ : ByteArray)) = ⟨(a ++ (c.toList ++ b)).toArray⟩ := by
  apply ByteArray.ext; simp [ByteArray.data_append]
theorem soft_eq (s ifs : ByteArray) (r : List UInt8) (w : World) (hs : s.size ≤ 100000) (h : softOf ifs.data.toList s.data.toList = r) :
    Calls Try.prog 9 #[.string s, .string ifs] w fun e w' => e = .returned (.string ⟨r.toArray⟩) ∧ Below w.heap.size w w' :=
  (soft_any s ifs w hs).mono fun e w' ⟨he, hb⟩ => ⟨by rw [he]; exact ret_val (by rw [← h]), hb⟩
theorem run_append (ifs : List UInt8) (s : St) (a b : List (Int × UInt8)) : run ifs s (a ++ b) = run ifs (run ifs s a) b := by simp [run]
theorem softBits_append (a b : List UInt8) : softBits (a ++ b) = softBits a ++ softBits b := by simp [softBits]
theorem step_same (ifs : List UInt8) (s : St) (c : UInt8) (h1 : hasB ifs c = true) (h2 : blankB c = true) : step ifs (step ifs s (2, c)) (2, c) = step ifs s (2, c) := by
  rw [step_blank ifs s c h1 h2, step_blank ifs _ c h1 h2]; simp
theorem run_blanks (ifs : List UInt8) (c : UInt8) (n : Nat) (h1 : hasB ifs c = true) (h2 : blankB c = true) (s : St) : run ifs (step ifs s (2, c)) (softBits (List.replicate n c)) = step ifs s (2, c) := by
  induction n with
  | zero => rfl
  | succ n ih =>
    have : softBits (List.replicate (n + 1) c) = (2, c) :: softBits (List.replicate n c) := rfl
    rw [this]
    show run ifs (step ifs (step ifs s (2, c)) (2, c)) _ = _
    rw [step_same ifs s c h1 h2, ih]
theorem run_row (ifs : List UInt8) (c : UInt8) (n : Nat) (h1 : hasB ifs c = true) (h2 : blankB c = true) (s : St) : run ifs s (softBits (List.replicate n c)) = s ∨ run ifs s (softBits (List.replicate n c)) = step ifs s (2, c) := by
  cases n with
  | zero => exact .inl rfl
  | succ n => exact .inr (run_blanks ifs c n h1 h2 s)
theorem ends_front (ifs s : List UInt8) (c : UInt8) (n : Nat) (h1 : hasB ifs c = true) (h2 : blankB c = true) : softOf ifs (List.replicate n c ++ s) = softOf ifs s := by
  have h0 : run ifs ⟨[], none, false⟩ (softBits (List.replicate n c)) = ⟨[], none, false⟩ := by
    rcases run_row ifs c n h1 h2 ⟨[], none, false⟩ with h | h
    · exact h
    · rw [h, step_blank ifs _ c h1 h2]; rfl
  unfold softOf split
  rw [softBits_append, run_append, h0]
theorem ends_back (ifs s : List UInt8) (c : UInt8) (n : Nat) (h1 : hasB ifs c = true) (h2 : blankB c = true) : softOf ifs (s ++ List.replicate n c) = softOf ifs s := by
  unfold softOf split
  rw [softBits_append, run_append]
  rcases run_row ifs c n h1 h2 (run ifs ⟨[], none, false⟩ (softBits s)) with h | h
  · rw [h]
  · rw [h, step_blank ifs _ c h1 h2]; simp [fin]
theorem run_twice (ifs s : List UInt8) (c : UInt8) (n : Nat) (h1 : hasB ifs c = true) (h2 : blankB c = true) : ∀ t : St, run ifs t (softBits (tw c (List.replicate n c) s)) = run ifs t (softBits s) := by
  induction s with
  | nil => intro t; rfl
  | cons x r ih =>
    intro t
    have e : tw c (List.replicate n c) (x :: r) = (if x == c then x :: List.replicate n c else [x]) ++ tw c (List.replicate n c) r := by simp [tw]
    rw [e, softBits_append, run_append]
    have e2 : run ifs t (softBits (x :: r)) = run ifs (step ifs t (2, x)) (softBits r) := rfl
    rw [e2, ih]
    congr 1
    by_cases hx : x = c
    · subst hx
      rw [if_pos (by simp)]
      exact run_blanks ifs x n h1 h2 t
    · rw [if_neg (by simpa using hx)]; rfl
theorem ends_twice (ifs s : List UInt8) (c : UInt8) (n : Nat) (h1 : hasB ifs c = true) (h2 : blankB c = true) : softOf ifs (tw c (List.replicate n c) s) = softOf ifs s := by
  unfold softOf split
  rw [run_twice ifs s c n h1 h2]
theorem size_front (s : ByteArray) (a : List UInt8) : ((⟨a.toArray⟩ : ByteArray) ++ s).size = a.length + s.size := by rw [ByteArray.size_append]; rfl
theorem size_back (s : ByteArray) (a : List UInt8) : (s ++ (⟨a.toArray⟩ : ByteArray)).size = s.size + a.length := by rw [ByteArray.size_append]; rfl
theorem size_arr (a : List UInt8) : (⟨a.toArray⟩ : ByteArray).size = a.length := by simp [ByteArray.size]
theorem ext_one (s : ByteArray) (k : Nat) (h : k < s.size) : s.extract k (k + 1) = ⟨#[s[k]]⟩ := by
  apply ByteArray.ext
  have hk : k < s.data.size := h
  apply Array.ext'
  simp only [ByteArray.data_extract, Array.toList_extract, List.extract_eq_take_drop]
  rw [show k + 1 - k = 1 by omega, List.take_one, List.head?_drop, List.getElem?_eq_getElem (by simpa using hk)]
  rfl
theorem hasB_at (s : ByteArray) (k : Nat) (h : k < s.size) : hasB s.data.toList s[k] = true :=
  hasB_of _ k (by simpa using h) _ (by rw [Array.getElem_toList]; rfl)
theorem blank_of {c : UInt8} (h : (c.toNat : Int) = 32 ∨ (c.toNat : Int) = 9 ∨ (c.toNat : Int) = 10) : blankB c = true := by
  have : c = 32 ∨ c = 9 ∨ c = 10 := by
    rcases h with h | h | h
    · exact .inl (UInt8.toNat_inj.1 (by simp; omega))
    · exact .inr (.inl (UInt8.toNat_inj.1 (by simp; omega)))
    · exact .inr (.inr (UInt8.toNat_inj.1 (by simp; omega)))
  rcases this with rfl | rfl | rfl <;> rfl
set_option maxRecDepth 100000 in
set_option maxHeartbeats 2000000 in
theorem ends_any (s ifs : ByteArray) (n : Int) (w : World) (hs9 : s.size ≤ 9223372036854775807) (hi9 : ifs.size ≤ 9223372036854775807) :
    Calls Try.prog 3 #[.string s, .string ifs, .int .i64 n] w fun e w' => e = .returned (.bool true) ∧ Below w.heap.size w w' := by
  by_cases h1 : 100 < s.size
  · go_enter Try.func3, Try.ntmps3
    go_wp2_with (go_at_call 8; refine (awake_any _).mono ?_; rintro e w1 ⟨rfl, hb1⟩)
    go_ret
    exact ⟨rfl, hb1⟩
  by_cases h2 : 20 < ifs.size
  · go_enter Try.func3, Try.ntmps3
    go_wp2_with (go_at_call 8; refine (awake_any _).mono ?_; rintro e w1 ⟨rfl, hb1⟩)
    go_ret
    exact ⟨rfl, hb1⟩
  by_cases h3 : n < 0
  · go_enter Try.func3, Try.ntmps3
    go_wp2_with (go_at_call 8; refine (awake_any _).mono ?_; rintro e w1 ⟨rfl, hb1⟩)
    go_ret
    exact ⟨rfl, hb1⟩
  by_cases h4 : 20 < n
  · go_enter Try.func3, Try.ntmps3
    go_wp2_with (go_at_call 8; refine (awake_any _).mono ?_; rintro e w1 ⟨rfl, hb1⟩)
    go_ret
    exact ⟨rfl, hb1⟩
  go_enter Try.func3, Try.ntmps3
  go_wp2
  go_loop [7, 8] (fun bl i => ∃ (k : Nat) (b : ByteArray), k ≤ ifs.size ∧ i = .int .i64 k ∧ bl = .string b ∧ (b = ⟨#[]⟩ ∨ ∃ c, b = ⟨#[c]⟩ ∧ hasB ifs.data.toList c = true ∧ blankB c = true)) (fun _ i => ifs.size - (intOf i).toNat)
  case atStart => exact ⟨0, _, Nat.zero_le _, rfl, rfl, .inl rfl⟩
  case round =>
    obtain ⟨k, b, hk, rfl, rfl, hb⟩ := hrel
    rcases hb with rfl | ⟨c, rfl, hc1, hc2⟩
    · by_cases hlt : k < ifs.size
      · go_wp2
        all_goals
          go_round
          case rel =>
            first
              | exact ⟨k + 1, _, by omega, by go_num, rfl, .inl rfl⟩
              | exact ⟨k + 1, _, by omega, by go_num, rfl, .inr ⟨ifs[k], ext_one ifs k hlt, hasB_at ifs k hlt, blank_of (by first | omega | (have hh : (((((ifs[k].toNat : Nat) : Int) == 32) = true ∨ (((ifs[k].toNat : Nat) : Int) == 9) = true) ∨ (((ifs[k].toNat : Nat) : Int) == 10) = true) := (by assumption); simp only [beq_iff_eq] at hh; omega))⟩⟩
          case measure => simp [intOf]; omega
      · go_wp2_with (go_at_call 8; refine (awake_any _).mono ?_; rintro e w1 ⟨rfl, hb1⟩)
        go_ret
        exact ⟨rfl, hb1⟩
    · have H1 := hid hc1
      have H2 := hid hc2
      have d1 : decide ((100 : Int) < (s.size : Int)) = false := by simp; omega
      have d2 : decide ((20 : Int) < (ifs.size : Int)) = false := by simp; omega
      clear hc1 hc2
      by_cases hlt : k < ifs.size
      all_goals
        go_wp2
        go_loop [9, 10] (fun row i => ∃ j : Nat, (j : Int) ≤ n ∧ i = .int .i64 j ∧ row = .string ⟨(rep j c).toArray⟩) (fun _ i => (n - intOf i).toNat)
        case atStart => exact ⟨0, h3, rfl, rfl⟩
        case round =>
          obtain ⟨j, hj, rfl, rfl⟩ := hrel
          have HR := hid (rep_succ j c)
          by_cases hjn : (j : Int) < n
          · have hrl : (rep j c).length ≤ 100 := by simp [rep]; omega
            generalize rep j c = rj at *
            go_wp2
            go_round
            case rel => exact ⟨j + 1, by omega, by go_num, by rw [HR.out, str_app1]⟩
            case measure => simp [intOf]; omega
          · obtain rfl : (j : Int) = n := by omega
            clear HR
            have hrl : (rep j c).length ≤ 100 := by simp [rep]; omega
            have HJ := hid (show rep j c = List.replicate j c from rfl)
            generalize rep j c = row at *
            go_wp2_with fail
            refine (soft_any s ifs _ (by omega)).mono ?_; rintro e w1 ⟨rfl, hb1⟩
            go_wp2_with fail
            go_loopw [12, 13] (fun o i wr => wr = w1 ∧ ∃ m : Nat, m ≤ s.size ∧ i = .int .i64 m ∧ o = .string ⟨(tw c row (s.data.toList.take m)).toArray⟩) (fun _ i _ => s.size - (intOf i).toNat)
            case atStart => exact ⟨rfl, 0, Nat.zero_le _, rfl, rfl⟩
            case round =>
              obtain ⟨rfl, m, hm, rfl, rfl⟩ := hrel
              by_cases hms : m < s.size
              · have HT := hid (tw_snoc c row s.data.toList m (by simpa using hms))
                have hx1 := ext_one s m hms
                have hx2 : s.data.toList[m]'(by simpa using hms) = s[m] := by rw [Array.getElem_toList]; rfl
                have hX2 := hid hx2
                have htl := tw_len c row (s.data.toList.take m)
                have htm : (s.data.toList.take m).length ≤ 100 := by have := List.length_take_le m s.data.toList; omega
                have htl2 : (tw c row (s.data.toList.take m)).length ≤ 100 * 102 := Nat.le_trans htl (Nat.mul_le_mul htm (by omega))
                clear htl htm hx2
                generalize tw c row (s.data.toList.take m) = tk at *
                generalize s[m] = x at *
                by_cases hxc : x = c
                · subst hxc
                  have hb : (x == x) = true := by simp
                  go_wp2
                  go_roundw
                  case rel => exact ⟨trivial, m + 1, by omega, by go_num, by rw [HT.out, hX2.out, str_app2]; simp⟩
                  case measure => simp [intOf]; omega
                · have hb : ([x] == [c]) = false := by simp [hxc]
                  go_wp2
                  go_roundw
                  case rel => exact ⟨trivial, m + 1, by omega, by go_num, by rw [HT.out, hX2.out, str_app1]; simp [hxc]⟩
                  case measure => simp [intOf]; omega
              · obtain rfl : m = s.size := by omega
                rw [List.take_of_length_le (by simp)]
                have e1 : softOf ifs.data.toList ((⟨row.toArray⟩ : ByteArray) ++ s).data.toList = softOf ifs.data.toList s.data.toList := by
                  rw [ByteArray.data_append, HJ.out]; simpa using ends_front ifs.data.toList s.data.toList c j H1.out H2.out
                have e2 : softOf ifs.data.toList (s ++ (⟨row.toArray⟩ : ByteArray)).data.toList = softOf ifs.data.toList s.data.toList := by
                  rw [ByteArray.data_append, HJ.out]; simpa using ends_back ifs.data.toList s.data.toList c j H1.out H2.out
                have e3 : softOf ifs.data.toList (tw c row s.data.toList) = softOf ifs.data.toList s.data.toList := by
                  rw [HJ.out]; exact ends_twice ifs.data.toList s.data.toList c j H1.out H2.out
                have htl := tw_len c row s.data.toList
                have htl2 : (tw c row s.data.toList).length ≤ 100 * 102 := Nat.le_trans htl (Nat.mul_le_mul (by simp; omega) (by omega))
                have E1 := hid e1
                have E2 := hid e2
                have E3 := hid e3
                clear e1 e2 e3 htl
                generalize tw c row s.data.toList = tl at *
                go_wp2_with fail
                refine (soft_eq _ ifs _ _ (by rw [size_front]; omega) E1.out).mono ?_; rintro e w2 ⟨rfl, hb2⟩
                go_wp2_with fail
                refine (soft_eq _ ifs _ _ (by rw [size_back]; omega) E2.out).mono ?_; rintro e w3 ⟨rfl, hb3⟩
                go_wp2_with fail
                refine (soft_eq ⟨tl.toArray⟩ ifs _ _ (by simp [ByteArray.size]; omega) E3.out).mono ?_; rintro e w4 ⟨rfl, hb4⟩
                go_wp2_with fail
                refine (awake_any _).mono ?_; rintro e w5 ⟨rfl, hb5⟩
                go_wp2
                go_ret
                have b2 := hb1.trans (hb2.mono hb1.size)
                have b3 := b2.trans (hb3.mono b2.size)
                have b4 := b3.trans (hb4.mono b3.size)
                exact ⟨rfl, b4.trans (hb5.mono b4.size)⟩
end Go.Proofs.Ytfadbbpnhppkpaa
