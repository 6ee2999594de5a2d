/- The plain laws of ParamsLeaves: what is left is an end, or a beginning; the longest leaves no more; a quoted text takes itself away. No program in sight; no condition. -/
import Derived.Test.YthnmdhcgnimdfaaDoorG9
set_option linter.unusedVariables false
set_option linter.unusedSimpArgs false
namespace Go.Proofs.YthnmdhcgnimdfaaDoor
open Go.RowKit
theorem best_mono (f : Nat → Bool) (m : Nat) : best f false m ≤ best f true m := by
  induction m with
  | zero => simp [best]
  | succ m ih =>
    have h1 := best_bd f false m
    have h2 := best_bd f true m
    unfold best
    cases hf : f m
    · rw [if_neg (by simp), if_neg (by simp)]; exact ih
    · rw [if_pos (c := true = true ∧ (true = true ∨ best f true m < 0)) ⟨rfl, .inl rfl⟩]
      split <;> omega
theorem best_none (f : Nat → Bool) (lg : Bool) (m : Nat) (h : ∀ n, n < m → f n = false) : best f lg m = -1 := by
  induction m with
  | zero => rfl
  | succ m ih => rw [best_no _ _ _ (h m (by omega))]; exact ih fun n hn => h n (by omega)
theorem best_only (f : Nat → Bool) (lg : Bool) (m k : Nat) (hk : k < m) (h : ∀ n, n < m → (f n = true ↔ n = k)) : best f lg m = k := by
  induction m with
  | zero => omega
  | succ m ih =>
    by_cases hkm : k = m
    · subst hkm
      have hn := best_none f lg k fun n hn => by
        cases hf : f n
        · rfl
        · have := (h n (by omega)).1 hf; omega
      rw [best_yes _ _ _ ((h k (by omega)).2 rfl) (.inr (by omega))]
    · have hf : f m = false := by
        cases hf : f m
        · rfl
        · exact (hkm ((h m (by omega)).1 hf).symm).elim
      rw [best_no _ _ _ hf]
      exact ih (by omega) fun n hn => h n (by omega)
def ones (l : List UInt8) : List It := l.map fun c => ⟨1, c, false, []⟩
theorem cgo_mk (out : List It) (l : List UInt8) : cgo out (mk true l) = out ++ ones l := by
  induction l generalizing out with
  | nil => rw [mk, List.map_nil, cgo]; simp [ones]
  | cons c r ih =>
    have e : mk true (c :: r) = (c, true) :: mk true r := rfl
    have hi : item1 (c, true) (mk true r) = (⟨1, c, false, []⟩, 1) := item1_q rfl
    rw [e, cgo, hi]
    have hp : push out ⟨1, c, false, []⟩ = out ++ [⟨1, c, false, []⟩] := by unfold push; rw [if_neg (by simp [isStar])]
    simp only [hp, Nat.sub_self, List.drop_zero]
    rw [ih]; simp [ones]
theorem compile_mk (l : List UInt8) : compile (mk true l) = ones l := by rw [compile, cgo_mk]; rfl
theorem M_ones (l S : List UInt8) : M (ones l) S = (S == l) := by
  induction l generalizing S with
  | nil => rw [ones, List.map_nil, M_nil]; cases S <;> rfl
  | cons c r ih =>
    have e : ones (c :: r) = ⟨1, c, false, []⟩ :: ones r := rfl
    rw [e]
    cases S with
    | nil => rw [M_end]; rfl
    | cons d q =>
      rw [M_plain _ _ _ _ rfl, ih]
      rw [Bool.eq_iff_iff]; simp [fitsB]
      exact fun _ => eq_comm
theorem trim_head_mk (l v : List UInt8) : trimL 6 (l ++ v) (mk true l) = v := by
  unfold trimL
  rw [if_pos (by decide), compile_mk]
  have hb : best (hd (ones l) (l ++ v)) ((6 : Int) == 7) ((l ++ v).length + 1) = (l.length : Int) := best_only _ _ _ _ (by simp; omega) fun n hn => by
    rw [hd, M_ones]
    simp only [beq_iff_eq]
    constructor
    · intro h
      have := congrArg List.length h
      rw [List.length_take] at this
      simp at this hn; omega
    · rintro rfl; simp
  rw [hb]; simp
theorem trim_tails_mk (l v : List UInt8) : trimL 9 (v ++ l) (mk true l) = v := by
  unfold trimL
  rw [if_neg (by decide), compile_mk]
  have hb : best (tl (ones l) (v ++ l)) ((9 : Int) == 9) ((v ++ l).length + 1) = (l.length : Int) := best_only _ _ _ _ (by simp; omega) fun n hn => by
    rw [tl, M_ones]
    simp only [beq_iff_eq]
    constructor
    · intro h
      have := congrArg List.length h
      rw [List.length_drop] at this
      simp at this hn; omega
    · rintro rfl; simp
  rw [hb]; simp
/-- what is left, at its place in the value -/
theorem left_head (op : Int) (s : ByteArray) (t : List Ch) (h : op ≤ 7) : ∃ k : Nat, k ≤ s.size ∧ (⟨(trimL op s.data.toList t).toArray⟩ : ByteArray) = s.extract k s.size ∧ k = (best (hd (compile t) s.data.toList) (op == 7) (s.data.toList.length + 1)).toNat := by
  have hb := best_bd (hd (compile t) s.data.toList) (op == 7) (s.data.toList.length + 1)
  have hl : s.data.toList.length = s.size := by simp
  refine ⟨_, ?_, ?_, rfl⟩
  · omega
  · exact (str_eq _ _ (by rw [ext_drop, trimL, if_pos h])).symm
theorem left_tail (op : Int) (s : ByteArray) (t : List Ch) (h : 7 < op) : ∃ k : Nat, k ≤ s.size ∧ (⟨(trimL op s.data.toList t).toArray⟩ : ByteArray) = s.extract 0 k ∧ k = s.size - (best (tl (compile t) s.data.toList) (op == 9) (s.data.toList.length + 1)).toNat := by
  have hl : s.data.toList.length = s.size := by simp
  refine ⟨_, ?_, ?_, rfl⟩
  · omega
  · exact (str_eq _ _ (by rw [ext_take, trimL, if_neg (by omega), hl])).symm
end Go.Proofs.YthnmdhcgnimdfaaDoor
