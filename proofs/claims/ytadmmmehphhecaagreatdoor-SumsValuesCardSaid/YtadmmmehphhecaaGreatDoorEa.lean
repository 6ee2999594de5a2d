/- Plain: the reference's number: what it keeps from round to round. -/
import Derived.Test.YtadmmmehphhecaaGreatDoorC
import Derived.Test.YtadmmmehphhecaaGreatDoorE
set_option linter.unusedVariables false
set_option linter.unusedSimpArgs false
namespace Go.Proofs.YtadmmmehphhecaaGreatDoor
open Go.RowKit
theorem parseB_snoc (B : Nat) (c : UInt8) : ∀ (l : List UInt8) (acc : Nat), parseB B acc (l ++ [c]) = (match parseB B acc l with
    | some a => if 18446744073709551616 ≤ a * B + dv c then none else some (a * B + dv c)
    | none => none) := by
  intro l
  induction l with
  | nil => intro acc; simp [parseB]
  | cons x r ih =>
    intro acc
    simp only [List.cons_append, parseB]
    split
    · rfl
    · exact ih _
def StB (B : Nat) (ds : List UInt8) (k x : Nat) (o : Bool) : Prop :=
  x < 18446744073709551616 ∧ ((∃ a, parseB B 0 (ds.take k) = some a ∧ o = true ∧ x = a) ∨ (parseB B 0 (ds.take k) = none ∧ o = false))
theorem StB.zero (B : Nat) (ds : List UInt8) : StB B ds 0 0 true := ⟨by omega, .inl ⟨0, rfl, rfl, rfl⟩⟩
theorem StB.step {B : Nat} {ds : List UInt8} {k x : Nat} {o : Bool} {c : UInt8} (h : StB B ds k x o) (hc : ds[k]? = some c) (hB : 2 ≤ B) (hd : dv c < B) (hB2 : B ≤ 16) :
    StB B ds (k + 1) ((x * B + dv c) % 18446744073709551616) (if (18446744073709551615 - dv c) / B < x then false else o) := by
  obtain ⟨hx, h⟩ := h
  have ht : ds.take (k + 1) = ds.take k ++ [c] := by rw [List.take_add_one, hc]; rfl
  refine ⟨Nat.mod_lt _ (by omega), ?_⟩
  rw [ht, parseB_snoc]
  have hlt : (18446744073709551615 - dv c) / B < x ↔ 18446744073709551616 ≤ x * B + dv c := by
    rw [Nat.div_lt_iff_lt_mul (by omega)]; generalize x * B = y; omega
  rcases h with ⟨a, h1, rfl, rfl⟩ | ⟨h1, rfl⟩
  · rw [h1]
    dsimp only
    by_cases ho : 18446744073709551616 ≤ x * B + dv c
    · exact .inr ⟨by rw [if_pos ho], by rw [if_pos (hlt.2 ho)]⟩
    · exact .inl ⟨x * B + dv c, by rw [if_neg ho], by rw [if_neg (fun h => ho (hlt.1 h))], Nat.mod_eq_of_lt (by omega)⟩
  · rw [h1]; exact .inr ⟨rfl, by split <;> rfl⟩
theorem wrap_mul (x B d : Nat) : IntKind.u64.wrap (IntKind.u64.wrap ((x : Int) * (B : Int)) + (d : Int)) = (((x * B + d) % 18446744073709551616 : Nat) : Int) := by
  rw [← Int.natCast_mul]
  generalize x * B = y
  simp [IntKind.wrap, IntKind.signed, IntKind.bits]
theorem rd_dig (b : UInt8) : (digB b = true → rdF b 10 = (dv b : Int) ∧ dv b < 10) ∧ (digB b = false → rdF b 10 = -1) := by
  revert b; apply all_u8; decide +kernel
theorem rd_oct (b : UInt8) : (octB b = true → rdF b 8 = (dv b : Int) ∧ dv b < 8) ∧ (octB b = false → rdF b 8 = -1) := by
  revert b; apply all_u8; decide +kernel
theorem rd_hex (b : UInt8) : (hexB b = true → rdF b 16 = (dv b : Int) ∧ dv b < 16) ∧ (hexB b = false → rdF b 16 = -1) := by
  revert b; apply all_u8; decide +kernel
/-- a stretch of digits -/
structure Way (s : ByteArray) (i B : Nat) (ds : List UInt8) : Prop where
  hi : i + ds.length ≤ s.size
  inn : ∀ k, k < ds.length → ∃ h : i + k < s.size, rdF s[i + k] B = (dv s[i + k] : Int) ∧ dv s[i + k] < B ∧ ds[k]? = some s[i + k]
  out : ∀ h : i + ds.length < s.size, rdF s[i + ds.length] B = -1
theorem Way.mk_ {s : ByteArray} {i B : Nat} {is : UInt8 → Bool} (hi : i ≤ s.size) (hr : ∀ b, (is b = true → rdF b B = (dv b : Int) ∧ dv b < B) ∧ (is b = false → rdF b B = -1)) : Way s i B ((s.data.toList.drop i).takeWhile is) := by
  have hsl : s.data.toList.length = s.size := by simp
  have hle := longN_le is (s.data.toList.drop i)
  rw [List.length_drop, hsl] at hle
  unfold longN at hle
  have hpre := List.takeWhile_prefix is (l := s.data.toList.drop i)
  refine ⟨by omega, fun k hk => ?_, fun h => ?_⟩
  · have hlt : i + k < s.size := by omega
    have hin := longN_in is (s.data.toList.drop i) k hk
    rw [List.getElem_drop, Array.getElem_toList] at hin
    refine ⟨hlt, ((hr _).1 hin).1, ((hr _).1 hin).2, ?_⟩
    rw [List.getElem?_eq_getElem hk, hpre.getElem hk, List.getElem_drop, Array.getElem_toList]; rfl
  · have hlt : longN is (s.data.toList.drop i) < (s.data.toList.drop i).length := by rw [List.length_drop, hsl]; unfold longN; omega
    have hout := longN_stop is (s.data.toList.drop i) hlt
    rw [List.getElem_drop, Array.getElem_toList] at hout
    exact (hr _).2 hout
end Go.Proofs.YtadmmmehphhecaaGreatDoor
