/- Decimal numbers in plain Lean: what a row of digits is worth, and how strconv.Atoi ends there. No program in sight; no condition. -/
import Derived.Test.YthnmdhcgnimdfaaDoorG10
set_option linter.unusedVariables false
set_option linter.unusedSimpArgs false
namespace Go.Proofs.YthnmdhcgnimdfaaDoor
open Go.RowKit
def isD (c : UInt8) : Bool := decide (48 ≤ c.toNat) && decide (c.toNat ≤ 57)
def dval (acc : Nat) (l : List UInt8) : Nat := l.foldl (fun a c => a * 10 + (c.toNat - 48)) acc
theorem dval_cons (acc : Nat) (c : UInt8) (r : List UInt8) : dval acc (c :: r) = dval (acc * 10 + (c.toNat - 48)) r := by unfold dval; rw [List.foldl_cons]
theorem dval_ge (l : List UInt8) : ∀ acc, acc ≤ dval acc l := by
  induction l with
  | nil => intro acc; exact Nat.le_refl _
  | cons c r ih => intro acc; rw [dval_cons]; have := ih (acc * 10 + (c.toNat - 48)); omega
theorem dval_snoc (l : List UInt8) (k : Nat) (h : k < l.length) : dval 0 (l.take (k + 1)) = dval 0 (l.take k) * 10 + (l[k].toNat - 48) := by
  unfold dval; rw [List.take_succ_eq_append_getElem h, List.foldl_append]; rfl
theorem parse_end (l : List UInt8) : ∀ acc, l.all isD = true → Lib.parseUint10 acc l = .ok (dval acc l) ∨ (Lib.parseUint10 acc l = .range ∧ 18446744073709551616 ≤ dval acc l) := by
  induction l with
  | nil => intro acc _; exact .inl rfl
  | cons c r ih =>
    intro acc h
    simp only [List.all_cons, Bool.and_eq_true] at h
    have hc : 48 ≤ c.toNat ∧ c.toNat ≤ 57 := by simpa [isD] using h.1
    rw [Lib.parseUint10, if_pos hc, dval_cons]
    have hge := dval_ge r (acc * 10 + (c.toNat - 48))
    by_cases h1 : 1844674407370955162 ≤ acc
    · rw [if_pos h1]; right; exact ⟨rfl, by omega⟩
    · rw [if_neg h1]
      by_cases h2 : 18446744073709551616 ≤ acc * 10 + (c.toNat - 48)
      · rw [if_pos h2]; right; exact ⟨rfl, by omega⟩
      · rw [if_neg h2]; exact ih _ h.2
theorem atoi_end (l : List UInt8) (hne : l ≠ []) (h : l.all isD = true) : Lib.atoiAll l = .ok (dval 0 l : Int) ∨ (Lib.atoiAll l = .range ∧ 9223372036854775808 ≤ dval 0 l) := by
  cases l with
  | nil => exact (hne rfl).elim
  | cons c r =>
    have hc : 48 ≤ c.toNat ∧ c.toNat ≤ 57 := by simp only [List.all_cons, Bool.and_eq_true] at h; simpa [isD] using h.1
    have h43 : ¬ c.toNat = 43 := by omega
    have h45 : ¬ c.toNat = 45 := by omega
    rcases parse_end (c :: r) 0 h with hp | ⟨hp, hge⟩
    · have hm : Lib.parseMag (c :: r) = .ok (dval 0 (c :: r)) := by rw [Lib.parseMag, if_neg hne, hp]
      by_cases h3 : 9223372036854775808 ≤ dval 0 (c :: r)
      · right; simp [Lib.atoiAll, h43, h45, hm, h3]
      · left; simp [Lib.atoiAll, h43, h45, hm, h3]
    · have hm : Lib.parseMag (c :: r) = .range := by rw [Lib.parseMag, if_neg hne, hp]
      right
      exact ⟨by simp [Lib.atoiAll, h43, h45, hm], by omega⟩
theorem digs_isD (c : UInt8) : digs.contains c = isD c := by
  rw [Bool.eq_iff_iff]
  simp [digs, isD]
  constructor
  · rintro (rfl | rfl | rfl | rfl | rfl | rfl | rfl | rfl | rfl | rfl) <;> decide
  · rintro ⟨h1, h2⟩
    have h : c.toNat = 48 ∨ c.toNat = 49 ∨ c.toNat = 50 ∨ c.toNat = 51 ∨ c.toNat = 52 ∨ c.toNat = 53 ∨ c.toNat = 54 ∨ c.toNat = 55 ∨ c.toNat = 56 ∨ c.toNat = 57 := by omega
    simp only [← UInt8.toNat_inj]
    simpa using h
theorem dropWhile_nil {α : Type} (p : α → Bool) (l : List α) : l.dropWhile p = [] ↔ l.all p = true := by
  induction l with
  | nil => simp
  | cons a r ih =>
    cases h : p a
    · rw [List.dropWhile_cons_of_neg (by simp [h]), List.all_cons, h]; simp
    · rw [List.dropWhile_cons_of_pos h, List.all_cons, h, Bool.true_and]; exact ih
theorem trimS_nil (l : List UInt8) : Lib.trimS l digs = [] ↔ l.all isD = true := by
  have hp : (fun c : UInt8 => digs.contains c) = isD := funext digs_isD
  unfold Lib.trimS Lib.trimLeftS Lib.trimRightS
  rw [hp, dropWhile_nil]
  constructor
  · intro h
    rw [List.all_eq_true] at h
    by_cases hn : (l.reverse.dropWhile isD) = []
    · have := (dropWhile_nil isD l.reverse).1 hn
      simpa using this
    · exfalso
      have hh := List.head_dropWhile_not isD hn
      have := h ((l.reverse.dropWhile isD).head hn) (by simp)
      rw [this] at hh; cases hh
  · intro h
    have h2 : l.reverse.dropWhile isD = [] := (dropWhile_nil isD l.reverse).2 (by simpa using h)
    rw [h2]; rfl
/-- which argument a name means -/
def argBad (nm : List UInt8) : Bool := nm.isEmpty || nm[0]? == some 48 || !nm.all isD
/-- the reference's number -/
def rst (n : Nat) (a : Nat) (c : UInt8) : Nat := if a ≤ n then 10 * a + (c.toNat - 48) else a
def rval (n : Nat) (l : List UInt8) : Nat := l.foldl (rst n) 0
theorem rval_snoc (n : Nat) (l : List UInt8) (k : Nat) (h : k < l.length) : rval n (l.take (k + 1)) = rst n (rval n (l.take k)) l[k] := by
  unfold rval; rw [List.take_succ_eq_append_getElem h, List.foldl_append]; rfl
theorem rval_dval (n : Nat) (l : List UInt8) (k : Nat) (hk : k ≤ l.length) : (rval n (l.take k) = dval 0 (l.take k) ∨ (n < rval n (l.take k) ∧ n < dval 0 (l.take k))) ∧ (l.all isD = true → rval n (l.take k) ≤ 10 * n + 9) := by
  induction k with
  | zero => exact ⟨.inl rfl, fun _ => by simp [rval]⟩
  | succ k ih =>
    have hlt : k < l.length := by omega
    obtain ⟨h1, h2⟩ := ih (by omega)
    rw [rval_snoc n l k hlt, dval_snoc l k hlt]
    have hd : l.all isD = true → l[k].toNat - 48 ≤ 9 := fun h => by
      have := List.all_eq_true.1 h l[k] (List.getElem_mem hlt)
      simp [isD] at this; omega
    unfold rst
    constructor
    · rcases h1 with h1 | ⟨h1, h1'⟩
      · by_cases hle : rval n (l.take k) ≤ n
        · rw [if_pos hle, h1]; left; omega
        · rw [if_neg hle]; right; omega
      · rw [if_neg (by omega)]; right; omega
    · intro h
      have := h2 h
      have := hd h
      split <;> omega
theorem dval_pos (c : UInt8) (r : List UInt8) (h0 : c ≠ 48) (h : isD c = true) : 1 ≤ dval 0 (c :: r) := by
  rw [dval_cons]
  have := dval_ge r (0 * 10 + (c.toNat - 48))
  have h1 : 48 ≤ c.toNat ∧ c.toNat ≤ 57 := by simpa [isD] using h
  have h2 : c.toNat ≠ 48 := fun e => h0 (UInt8.toNat_inj.1 e)
  omega
end Go.Proofs.YthnmdhcgnimdfaaDoor
