/- The bytes of the fields of the plain function, one behind the other, are the bytes that are kept. No condition. -/
import Derived.Test.YtfadbbpnhppkpaaFields
set_option linter.unusedVariables false
set_option linter.unusedSimpArgs false
namespace Go.Proofs.Ytfadbbpnhppkpaa
open Go.RowKit
/-- what a bit gives to the fields -/
def keep1 (ifs : List UInt8) (b : Int × UInt8) : List (UInt8 × Bool) := if byteB b.1 && !softB ifs b then [(b.2, b.1 == 1)] else []
def keeps (ifs : List UInt8) (l : List (Int × UInt8)) : List (UInt8 × Bool) := l.flatMap (keep1 ifs)
theorem step_flat (ifs : List UInt8) (s : St) (b : Int × UInt8) : (fin (step ifs s b)).flatten = (fin s).flatten ++ keep1 ifs b := by
  obtain ⟨out, now, af⟩ := s
  unfold step fin keep1
  cases h1 : (byteB b.1 && !softB ifs b)
  · by_cases h3 : (b.1 == 3) = true
    · rw [if_neg (by simp), if_pos h3]; cases now <;> simp
    · by_cases h4 : (b.1 == 4) = true
      · rw [if_neg (by simp), if_neg h3, if_pos h4]; cases now <;> simp
      · rw [if_neg (by simp), if_neg h3, if_neg h4]
        split
        · cases now <;> simp
        · split
          · cases now <;> cases af <;> simp
          · simp
  · rw [if_pos rfl]; cases now <;> simp
theorem run_flat (ifs : List UInt8) (l : List (Int × UInt8)) : ∀ s : St, (fin (run ifs s l)).flatten = (fin s).flatten ++ keeps ifs l := by
  induction l with
  | nil => intro s; simp [run, keeps]
  | cons b r ih =>
    intro s
    have e : run ifs s (b :: r) = run ifs (step ifs s b) r := rfl
    rw [e, ih, step_flat]
    simp [keeps]
theorem split_flat (ifs : List UInt8) (l : List (Int × UInt8)) : (split ifs l).flatten = keeps ifs l := by
  have := run_flat ifs l ⟨[], none, false⟩
  simpa [split, fin] using this
theorem keep1_len (ifs : List UInt8) (b : Int × UInt8) : (keep1 ifs b).length ≤ 1 := by unfold keep1; split <;> simp
theorem keeps_len (ifs : List UInt8) (l : List (Int × UInt8)) : (keeps ifs l).length ≤ l.length := by
  induction l with
  | nil => simp [keeps]
  | cons b r ih => have := keep1_len ifs b; simp only [keeps, List.flatMap_cons, List.length_append, List.length_cons] at ih ⊢; omega
theorem keeps_snoc (ifs : List UInt8) (l : List (Int × UInt8)) (k : Nat) (h : k < l.length) : keeps ifs (l.take (k + 1)) = keeps ifs (l.take k) ++ keep1 ifs l[k] := by
  rw [List.take_succ_eq_append_getElem h, keeps, List.flatMap_append]; simp [keeps]
theorem keep1_yes {ifs : List UInt8} {kd : Int} {c : UInt8} (h : byteB kd = true) (hs : softB ifs (kd, c) = false) : keep1 ifs (kd, c) = [(c, kd == 1)] := by simp [keep1, h, hs]
theorem keep1_soft {ifs : List UInt8} {kd : Int} {c : UInt8} (hs : softB ifs (kd, c) = true) : keep1 ifs (kd, c) = [] := by simp [keep1, hs]
theorem keep1_no {ifs : List UInt8} {kd : Int} {c : UInt8} (h : byteB kd = false) : keep1 ifs (kd, c) = [] := by simp [keep1, h]
end Go.Proofs.Ytfadbbpnhppkpaa
