/- Rows of bools that the call owns, and the laws of the reference's table. No program in sight; no condition. -/
import Derived.Test.YthnmdhcgnimdfaaDoorG21
import Derived.OwnWalk
set_option linter.unusedVariables false
set_option linter.unusedSimpArgs false
namespace Go.Proofs.YthnmdhcgnimdfaaDoor
open Go.RowKit
def bls (l : List Bool) : List Value := l.map .bool
def rowf (n : Nat) (f : Nat → Bool) : List Bool := (List.range (n + 1)).map f
def upd (f : Nat → Bool) (j : Nat) (b : Bool) : Nat → Bool := fun i => if i = j then b else f i
theorem rowf_len (n : Nat) (f : Nat → Bool) : (bls (rowf n f)).length = n + 1 := by simp [bls, rowf]
theorem rowf_at (n : Nat) (f : Nat → Bool) (j : Nat) (h : j ≤ n) : (bls (rowf n f))[j]? = some (.bool (f j)) := by
  have : j < n + 1 := by omega
  simp [bls, rowf, List.getElem?_range, this]
theorem rowf_congr (n : Nat) (f f' : Nat → Bool) (h : ∀ i, i ≤ n → f i = f' i) : rowf n f = rowf n f' := by
  unfold rowf; apply List.map_congr_left; intro i hi; exact h i (by simp at hi; omega)
theorem rowf_set (n : Nat) (f : Nat → Bool) (j : Nat) (b : Bool) : (bls (rowf n f)).set j (.bool b) = bls (rowf n (upd f j b)) := by
  apply List.ext_getElem?
  intro i
  rw [List.getElem?_set]
  by_cases hi : i ≤ n
  · rw [rowf_at n _ i hi, rowf_at n _ i hi, rowf_len]
    by_cases hj : j = i
    · rw [if_pos hj, if_pos (by omega)]; simp [upd, hj]
    · rw [if_neg hj]; have hj' : ¬ i = j := fun e => hj e.symm; simp [upd, hj']
  · rw [List.getElem?_eq_none (by rw [rowf_len]; omega), List.getElem?_eq_none (by rw [rowf_len]; omega), rowf_len]
    split
    · rw [if_neg (by omega)]
    · rfl
theorem made_false (n m : Nat) (h : m = n + 1) : (madeCells (Value.cells (.bool false)) (m * 1)).toList = bls (rowf n fun _ => false) := by
  subst h
  apply List.ext_getElem?
  intro i
  by_cases hi : i ≤ n
  · rw [rowf_at n _ i hi]
    have : i < n + 1 := by omega
    simp [madeCells, Value.cells, this, Array.getElem?_range, Nat.mod_one]
  · rw [List.getElem?_eq_none (by simp [madeCells]; omega), List.getElem?_eq_none (by rw [rowf_len]; omega)]
theorem own_bit {w : World} {base g n m c : Nat} {f : Nat → Bool} (hown : w.ownsRow base 4 1 (.slice (some ⟨g, 0, none⟩) m c) m (bls (rowf n f))) (j : Nat) (hj : j ≤ n) : w.cell? ⟨g, j, none⟩ = some (.bool (f j)) := by
  have := At.of_own hown j _ (rowf_at n f j hj)
  rwa [Nat.zero_add] at this
theorem own_upd {w : World} {base g n m c : Nat} {f : Nat → Bool} (hown : w.ownsRow base 4 1 (.slice (some ⟨g, 0, none⟩) m c) m (bls (rowf n f))) (j : Nat) (b : Bool) : (w.setCell ⟨g, j, none⟩ (.bool b)).ownsRow base 4 1 (.slice (some ⟨g, 0, none⟩) m c) m (bls (rowf n (upd f j b))) := by
  have := (hown.stored j (.bool b)).1
  rwa [rowf_set] at this
/-- what the table holds behind k items -/
def tabF (P : List It) (S : List UInt8) (k : Nat) (i : Nat) : Bool := M (P.take k) (S.take i)
/-- what the next row holds at the head of round i -/
def midF (P : List It) (S : List UInt8) (k i : Nat) (st : Bool) (j : Nat) : Bool :=
  if j < i then tabF P S (k + 1) j else if j = i then (if st = true then decide (0 < i) && tabF P S (k + 1) (i - 1) else tabF P S (k + 1) i) else false
theorem midF_start (P : List It) (S : List UInt8) (k : Nat) (hk : k < P.length) (st : Bool) (hs : isStar P[k] = st) (j : Nat) : midF P S k 0 st j = false := by
  unfold midF
  rw [if_neg (by omega)]
  split
  · cases st with
    | true => simp
    | false => rw [if_neg (by decide)]; unfold tabF; rw [List.take_zero]; exact tab_zero P k hk hs
  · rfl
theorem midF_end (P : List It) (S : List UInt8) (k n : Nat) (st : Bool) (j : Nat) (hj : j ≤ n) : midF P S k (n + 1) st j = tabF P S (k + 1) j := by
  unfold midF; rw [if_pos (by omega)]
theorem tab_first (P : List It) (S : List UInt8) (i : Nat) (hi : i ≤ S.length) : tabF P S 0 i = decide (i = 0) := by unfold tabF; rw [List.take_zero]; exact tab_none S i hi
/-- a star's round -/
theorem midF_star (P : List It) (S : List UInt8) (k : Nat) (hk : k < P.length) (hs : isStar P[k] = true) (i : Nat) (hi : i ≤ S.length) :
    tabF P S (k + 1) i = (midF P S k i true i || tabF P S k i) := by
  unfold midF
  rw [if_neg (by omega), if_pos rfl, if_pos rfl]
  unfold tabF
  rw [tab_star P k hk S i hi hs]
  cases M (P.take k) (S.take i) <;> cases (decide (0 < i) && M (P.take (k + 1)) (S.take (i - 1))) <;> rfl
theorem mid_star (P : List It) (S : List UInt8) (k i : Nat) (f : Nat → Bool) (n : Nat) (hf : ∀ j, j ≤ n → f j = midF P S k i true j) (j : Nat) (hj : j ≤ n) :
    (if i < n ∧ tabF P S (k + 1) i = true then upd (upd f i (tabF P S (k + 1) i)) (i + 1) true else upd f i (tabF P S (k + 1) i)) j = midF P S k (i + 1) true j := by
  have h0 := hf j hj
  by_cases hc : i < n ∧ tabF P S (k + 1) i = true
  · rw [if_pos hc]
    by_cases h1 : j = i + 1
    · subst h1; simp [upd, midF, hc.2]
    · by_cases h2 : j = i
      · subst h2; simp [upd, midF]
      · have e1 : upd (upd f i (tabF P S (k + 1) i)) (i + 1) true j = f j := by simp [upd, h1, h2]
        rw [e1, h0]
        unfold midF
        by_cases h3 : j < i
        · rw [if_pos h3, if_pos (by omega)]
        · rw [if_neg h3, if_neg h2, if_neg (by omega), if_neg h1]
  · rw [if_neg hc]
    by_cases h2 : j = i
    · subst h2; simp [upd, midF]
    · have e1 : upd f i (tabF P S (k + 1) i) j = f j := by simp [upd, h2]
      rw [e1, h0]
      unfold midF
      by_cases h3 : j < i
      · rw [if_pos h3, if_pos (by omega)]
      · rw [if_neg h3, if_neg h2, if_neg (by omega)]
        by_cases h1 : j = i + 1
        · rw [if_pos h1]
          subst h1
          have : tabF P S (k + 1) i = false := by
            cases h : tabF P S (k + 1) i
            · rfl
            · exact (hc ⟨by omega, h⟩).elim
          simp [this]
        · rw [if_neg h1]
/-- a round of an item that is no star: b says whether the byte at the place may be taken -/
theorem mid_plain (P : List It) (S : List UInt8) (k : Nat) (hk : k < P.length) (hs : isStar P[k] = false) (i : Nat) (f : Nat → Bool) (b : Bool) (hb : b = true ↔ ∃ h : i < S.length, tabF P S k i = true ∧ fitsB P[k] S[i] = true)
    (hf : ∀ j, j ≤ S.length → f j = midF P S k i false j) (j : Nat) (hj : j ≤ S.length) :
    (if b = true then upd f (i + 1) true else f) j = midF P S k (i + 1) false j := by
  have h0 := hf j hj
  have e : ∀ h : i < S.length, tabF P S (k + 1) (i + 1) = (tabF P S k i && fitsB P[k] S[i]) := fun h => tab_plain P k hk S i h hs
  by_cases h1 : j = i + 1
  · subst h1
    have hi : i < S.length := by omega
    have e2 : midF P S k (i + 1) false (i + 1) = tabF P S (k + 1) (i + 1) := by simp [midF]
    have e3 : midF P S k i false (i + 1) = false := by simp [midF]; intro h; omega
    rw [e2, e hi]
    cases hbb : b with
    | true =>
      obtain ⟨_, x, y⟩ := hb.1 hbb
      rw [if_pos rfl, x, y]; simp [upd]
    | false =>
      rw [if_neg (by decide), h0, e3]
      cases x : tabF P S k i <;> cases y : fitsB P[k] S[i] <;> first | rfl | (exfalso; have := hb.2 ⟨hi, x, y⟩; rw [hbb] at this; cases this)
  · have e1 : (if b = true then upd f (i + 1) true else f) j = f j := by split <;> simp [upd, h1]
    rw [e1, h0]
    unfold midF
    by_cases h2 : j < i
    · rw [if_pos h2, if_pos (by omega)]
    · by_cases h3 : j = i
      · subst h3; rw [if_neg (by omega), if_pos rfl, if_neg (by decide), if_pos (by omega)]
      · rw [if_neg h2, if_neg h3, if_neg (by omega), if_neg h1]
end Go.Proofs.YthnmdhcgnimdfaaDoor
