/- The plain laws of whelkref02.group, by places. No program in sight; no condition. -/
import Derived.Test.YthnmdhcgnimdfaaDoorG18
set_option linter.unusedVariables false
set_option linter.unusedSimpArgs false
namespace Go.Proofs.YthnmdhcgnimdfaaDoor
open Go.RowKit
/-- how far a group has been read: b is where its things begin, p the place of the next one -/
structure RG (t : List Ch) (i : Nat) (bv : Bool) (b p : Nat) (rs : List Rg) : Prop where
  lo : i + 1 ≤ b
  le : b ≤ p
  hi : p ≤ t.length
  eq : grp (t.drop (i + 1)) = (gl (decide (p = b)) rs (p - (i + 1)) (t.drop p)).map fun x => (bv, x.1, x.2)
theorem RG.start {t : List Ch} {i : Nat} (hi : i < t.length) : RG t i (isB t (i + 1) 33) (i + 1 + ngN (isB t (i + 1) 33)) (i + 1 + ngN (isB t (i + 1) 33)) [] := by
  have hb : bareB (t.drop (i + 1)) [33] = isB t (i + 1) 33 := by rw [bareB_isB, isB_drop]
  have hg := grp_eq (t.drop (i + 1))
  rw [hb, List.drop_drop] at hg
  refine ⟨by omega, Nat.le_refl _, ?_, ?_⟩
  · cases h : isB t (i + 1) 33 with
    | false => simp [ngN]; omega
    | true =>
      have h0 : t[i + 1]? = some (33, false) := by simpa [isB] using h
      obtain ⟨hlt, _⟩ := List.getElem?_eq_some_iff.1 h0
      simp [ngN]; omega
  · rw [hg, Nat.add_sub_cancel_left]; simp
theorem drop_at {t : List Ch} {p : Nat} (h : p < t.length) : t.drop p = t[p] :: t.drop (p + 1) := List.drop_eq_getElem_cons h
theorem bareB_drop (t : List Ch) (p : Nat) (b : UInt8) : bareB (t.drop p) [b] = isB t p b := by rw [bareB_isB, isB_drop]; rfl
theorem RG.close {t : List Ch} {i : Nat} {bv : Bool} {b p : Nat} {rs : List Rg} (g : RG t i bv b p rs) (hp : p < t.length) (hb : b < p) (h : isB t p 93 = true) : grp (t.drop (i + 1)) = some (bv, rs, p - i) := by
  have hc : bareB (t[p] :: t.drop (p + 1)) [93] = true := by rw [← drop_at hp, bareB_drop]; exact h
  rw [g.eq, drop_at hp, show decide (p = b) = false by simp; omega, gl_close _ _ _ _ hc]
  have := g.lo; have := g.le
  simp; omega
theorem RG.none_ {t : List Ch} {i : Nat} {bv : Bool} {b p : Nat} {rs : List Rg} (g : RG t i bv b p rs) (hp : p < t.length) (hno : (decide (b < p) && isB t p 93) = false) (ht : thingB t[p] (t.drop (p + 1)) = none) : grp (t.drop (i + 1)) = none := by
  rw [g.eq, drop_at hp, gl_none _ _ _ _ _ ?_ ht]
  · rfl
  intro hf
  rw [← drop_at hp, bareB_drop]
  have hle := g.le
  have hbp : decide (b < p) = true := by simp at hf ⊢; omega
  rw [hbp] at hno; simpa using hno
theorem RG.step {t : List Ch} {i : Nat} {bv : Bool} {b p : Nat} {rs : List Rg} (g : RG t i bv b p rs) (hp : p < t.length) (hno : (decide (b < p) && isB t p 93) = false) {l : List Rg} {k : Nat} (ht : thingB t[p] (t.drop (p + 1)) = some (l, k)) : RG t i bv b (p + k) (rs ++ l) := by
  obtain ⟨hk1, hk2, _⟩ := thing_le ht
  have hle := g.le
  have hlo := g.lo
  rw [List.length_drop] at hk2
  refine ⟨g.lo, by omega, by omega, ?_⟩
  rw [g.eq, drop_at hp, gl_some _ _ _ _ _ ?_ ht]
  · rw [← drop_at hp, List.drop_drop, show decide (p + k = b) = false by simp; omega, show p - (i + 1) + k = p + k - (i + 1) by omega]
  intro hf
  rw [← drop_at hp, bareB_drop]
  have hbp : decide (b < p) = true := by simp at hf ⊢; omega
  rw [hbp] at hno; simpa using hno
theorem RG.fin {t : List Ch} {i : Nat} {bv : Bool} {b p : Nat} {rs : List Rg} (g : RG t i bv b p rs) (hp : ¬ p < t.length) : grp (t.drop (i + 1)) = none := by
  rw [g.eq, List.drop_eq_nil_of_le (by omega), gl_end]; rfl
/-- the place behind the small letters -/
def kk (t : List Ch) (p : Nat) : Nat := p + 2 + lowN (t.drop (p + 2))
def nmB (t : List Ch) (p : Nat) : Bool := isB t p 91 && isB t (p + 1) 58 && decide (p + 2 < kk t p) && isB t (kk t p) 58 && isB t (kk t p + 1) 93
theorem named_yes (t : List Ch) (p : Nat) (h : nmB t p = true) : namedB (t.drop p) = some (((t.take (kk t p)).drop (p + 2)).map Prod.fst, kk t p + 2 - p) := by
  rw [named_at t p (kk t p) rfl, if_pos]
  simpa [nmB, and_assoc] using h
theorem named_no (t : List Ch) (p : Nat) (h : nmB t p = false) : namedB (t.drop p) = none := by
  rw [named_at t p (kk t p) rfl, if_neg]
  intro hh
  have : nmB t p = true := by simpa [nmB, and_assoc] using hh
  rw [h] at this; cases this
theorem kk_le (t : List Ch) (p : Nat) (h : p + 2 ≤ t.length) : kk t p ≤ t.length := by
  have h1 : lowN (t.drop (p + 2)) ≤ (t.drop (p + 2)).length := by unfold lowN; exact (List.takeWhile_prefix _).length_le
  rw [List.length_drop] at h1
  unfold kk; omega
theorem isB_lt {t : List Ch} {p : Nat} {b : UInt8} (h : isB t p b = true) : p < t.length := by
  have h0 : t[p]? = some (b, false) := by simpa [isB] using h
  exact (List.getElem?_eq_some_iff.1 h0).1
theorem thing_class (t : List Ch) (p : Nat) (hp : p < t.length) (h : nmB t p = true) : (classL (((t.take (kk t p)).drop (p + 2)).map Prod.fst) = [] → thingB t[p] (t.drop (p + 1)) = none) ∧
    (classL (((t.take (kk t p)).drop (p + 2)).map Prod.fst) ≠ [] → thingB t[p] (t.drop (p + 1)) = some (classL (((t.take (kk t p)).drop (p + 2)).map Prod.fst), kk t p + 2 - p)) := by
  have hn := named_yes t p h
  rw [drop_at hp] at hn
  generalize ((t.take (kk t p)).drop (p + 2)).map Prod.fst = nm at *
  refine ⟨fun e => ?_, fun e => ?_⟩
  · unfold thingB; rw [hn]; simp [e]
  · unfold thingB; rw [hn]; simp [e]
def rangeB (t : List Ch) (p : Nat) : Bool := isB t (p + 1) 45 && decide (p + 2 < t.length) && !isB t (p + 2) 93
theorem thing_range (t : List Ch) (p : Nat) (hp : p < t.length) (h : nmB t p = false) (hr : rangeB t p = true) : ∃ h2 : p + 2 < t.length, thingB t[p] (t.drop (p + 1)) = some (rangeL t[p].1 t[p + 2].1, 3) := by
  have hn := named_no t p h
  rw [drop_at hp] at hn
  have hh : isB t (p + 1) 45 = true ∧ p + 2 < t.length ∧ isB t (p + 2) 93 = false := by simpa [rangeB, and_assoc] using hr
  obtain ⟨e, he, ht⟩ := (thing_at t p _ _ (drop_at hp) hn).1 hh.1 hh.2.1 hh.2.2
  refine ⟨hh.2.1, ?_⟩
  rw [List.getElem?_eq_getElem hh.2.1] at he
  injection he with he
  rw [ht, he]
theorem thing_one (t : List Ch) (p : Nat) (hp : p < t.length) (h : nmB t p = false) (hr : rangeB t p = false) : thingB t[p] (t.drop (p + 1)) = some ([(t[p].1, t[p].1)], 1) := by
  have hn := named_no t p h
  rw [drop_at hp] at hn
  rw [(thing_at t p _ _ (drop_at hp) hn).2 ?_]
  · simp [rangeL]
  · intro hh
    have : rangeB t p = true := by simpa [rangeB, and_assoc] using hh
    rw [hr] at this; cases this
end Go.Proofs.YthnmdhcgnimdfaaDoor
