/- How long an expression's text may be (plain); the contract of sums.deep by induction. -/
import Derived.Test.YtadmmmehphhecaaGreatDoorLf
import Derived.Test.YtadmmmehphhecaaGreatDoorLe
set_option linter.unusedVariables false
set_option linter.unusedSimpArgs false
namespace Go.Proofs.YtadmmmehphhecaaGreatDoor
open Go.RowKit
theorem deep_any (m : Nat) (hm : m ≤ 1000) : ∀ (e : Ex), szF e ≤ 100000 → DeepC m e := by
  induction m with
  | zero => intro e h; exact deep_zero e (by have := szF_len e; omega)
  | succ m ih => intro e h; exact deep_step m e (by omega) (by have := szF_len e; omega) fun k hk => ih (by omega) _ (by have := szF_at e k hk; omega)
theorem dec_len2 : ∀ (k n : Nat), n < 10 ^ (k + 1) → (Lib.decDigits n).length ≤ k + 1
  | 0, n, h => by rw [dec1 n (by simpa using h)]; simp
  | k + 1, n, h => by
    by_cases h1 : n < 10
    · rw [dec1 n h1]; simp
    · have := dec_len2 k (n / 10) (by rw [Nat.pow_succ] at h; omega)
      rw [dec2 n (by omega), List.length_append]; simp; omega
theorem itoa_len (n : Int) (h0 : -9223372036854775808 ≤ n) (h1 : n ≤ 9223372036854775807) : (Lib.itoa n).length ≤ 21 := by
  rcases Int.le_total 0 n with h | h
  · obtain ⟨k, rfl⟩ := Int.eq_ofNat_of_zero_le h
    have := dec_len2 19 k (by omega)
    rw [itoa_pos]; omega
  · by_cases h2 : n = 0
    · subst h2; rw [show (0 : Int) = ((0 : Nat) : Int) from rfl, itoa_pos, dec1 0 (by omega)]; simp
    · obtain ⟨k, hk⟩ : ∃ k : Nat, n = -(k : Int) := ⟨n.natAbs, by omega⟩
      subst hk
      have := dec_len2 19 k (by omega)
      rw [itoa_neg k (by omega)]; simp; omega
theorem op_len {op : List UInt8} (h : 0 ≤ kidsF op) : op.length ≤ 4 := by
  unfold kidsF at h
  by_cases h1 : op.length ≤ 4
  · exact h1
  · exfalso
    have hs : setF op = false := by
      cases hs : setF op with
      | false => rfl
      | true =>
        simp [setF, setL] at hs
        rcases hs with rfl | rfl | rfl | rfl | rfl | rfl | rfl | rfl | rfl | rfl | rfl <;> simp at h1
    have hl : levF op = 0 := by
      unfold levF
      repeat' split
      all_goals first | rfl | (exfalso; simp_all; done) | (exfalso; rename_i hx; rcases hx with rfl | rfl <;> simp at h1) | (exfalso; rename_i hx; rcases hx with rfl | rfl | rfl <;> simp at h1) | (exfalso; rename_i hx; rcases hx with rfl | rfl | rfl | rfl <;> simp at h1)
    simp [hs, hl] at h
    repeat' split at h
    all_goals first | omega | (exfalso; simp_all; done) | (rename_i hx; rcases hx with rfl | rfl <;> simp at h1) | (rename_i hx; rcases hx with rfl | rfl | rfl | rfl <;> simp at h1)
theorem getD_le (ks : List (List UInt8)) : (ks.getD 0 []).length + (ks.getD 1 []).length + (ks.getD 2 []).length ≤ (ks.map List.length).sum := by
  match ks with
  | [] => simp
  | [a] => simp
  | [a, b] => simp
  | a :: b :: c :: r => simp; omega
theorem headB_op {op nm : List UInt8} {n : Int} {len : Nat} (h : headB op n nm len = true) : 0 ≤ kidsF op := by
  simp only [headB, Bool.and_eq_true, decide_eq_true_eq] at h
  omega
theorem glue_len {op nm : List UInt8} {n : Int} (ks : List (List UInt8)) (ho : op.length ≤ 4) (hn : nm.length ≤ 4096) (h0 : -9223372036854775808 ≤ n) (h1 : n ≤ 9223372036854775807) : (glueF op n nm ks).length ≤ 5000 + (ks.map List.length).sum := by
  have a0 := getD_le ks
  have a3 := itoa_len n h0 h1
  unfold glueF
  repeat' split
  all_goals ((try simp only [List.length_append, List.length_cons, List.length_nil]); omega)
mutual
theorem show_len : ∀ e : Ex, okF e = true → rightF e = true → (showF e).length ≤ 5000 * szF e
  | .mk op n nm k, ho, hr => by
    simp only [okF, Bool.and_eq_true, decide_eq_true_eq] at ho
    simp only [rightF, Bool.and_eq_true] at hr
    have h1 := glue_len (op := op) (nm := nm) (n := n) (showL k) (op_len (headB_op hr.1)) ho.1.2 ho.1.1.1 ho.1.1.2
    have h2 := showL_len k ho.2 hr.2
    simp only [showF, szF]; omega
theorem showL_len : ∀ l : Exs, okL l = true → rightL l = true → ((showL l).map List.length).sum ≤ 5000 * szL l
  | .nil, _, _ => by simp [showL]
  | .cons e r, ho, hr => by
    simp only [okL, Bool.and_eq_true] at ho
    simp only [rightL, Bool.and_eq_true] at hr
    have h1 := show_len e ho.1 hr.1
    have h2 := showL_len r ho.2 hr.2
    simp only [showL, szL, List.map_cons, List.sum_cons]; omega
end
end Go.Proofs.YtadmmmehphhecaaGreatDoor
