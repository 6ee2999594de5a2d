/- The walks of sums.Text and whelkref03.Text. -/
import Derived.Test.YtadmmmehphhecaaDoorV
import Derived.StillTailTactics
import Derived.Deep.RegionHeld3
import Derived.Deep.RegionWith
import Derived.Deep.DeepCutAuto
import Derived.RegionTactic
import Derived.IntWalk
import Derived.Lib.AppendIntMem
set_option linter.unusedVariables false
set_option linter.unusedSimpArgs false
namespace Go.Proofs.YtadmmmehphhecaaDoor
open Go.RowKit
theorem dec1 (n : Nat) (h : n < 10) : Lib.decDigits n = [UInt8.ofNat (48 + n)] := by rw [Lib.decDigits, dif_pos h]
theorem dec2 (n : Nat) (h : 10 ≤ n) : Lib.decDigits n = Lib.decDigits (n / 10) ++ [UInt8.ofNat (48 + n % 10)] := by rw [Lib.decDigits, dif_neg (by omega)]
theorem itoa_pos (n : Nat) : Lib.itoa (n : Int) = Lib.decDigits n := by unfold Lib.itoa; rw [if_neg (by omega)]; rfl
theorem itoa_neg (n : Nat) (h : 0 < n) : Lib.itoa (-(n : Int)) = 45 :: Lib.decDigits n := by unfold Lib.itoa; rw [if_pos (by omega)]; simp
theorem u8w (n : Nat) (h : n < 10) : IntKind.u8.wrap (48 + (n : Int)) = ((UInt8.ofNat (48 + n)).toNat : Int) := by
  rw [UInt8.toNat_ofNat_of_lt' (by show 48 + n < 256; omega)]
  simp [IntKind.wrap, IntKind.signed, IntKind.bits]; omega
theorem one_byte (c : UInt8) : ∀ (W : World) (g : Nat), W.cell? ⟨g, 0, none⟩ = some (.int .u8 (c.toNat : Int)) →
    (convert 97 9 (.slice (some ⟨g, 0, none⟩) 1 1)).run Tryd.prog W = .ok (.string ⟨#[c]⟩) W := fun W g h =>
  run_convert_bytes_back (P := Tryd.prog) W 97 9 5 ⟨g, 0, none⟩ 1 [c] Tryd.underlying97 Tryd.underlying5 Tryd.underlying9 (fun j hj => by
    have : j = 0 := by simpa using hj
    subst this
    rw [Addr.add_lit]; exact h)
theorem str_app (a b : List UInt8) : (⟨a.toArray⟩ : ByteArray) ++ ⟨b.toArray⟩ = ⟨(a ++ b).toArray⟩ := by apply ByteArray.ext; simp [ByteArray.data_append]
theorem dec_len (n : Nat) : (Lib.decDigits n).length ≤ n + 1 := by
  induction n using Nat.strongRecOn with
  | _ n ih =>
    by_cases h : n < 10
    · rw [dec1 n h]; simp
    · rw [dec2 n (by omega), List.length_append]
      have := ih (n / 10) (by omega)
      simp; omega
theorem text_any (n : Int) (h0 : -9223372036854775808 ≤ n) (h1 : n ≤ 9223372036854775807) (w : World) (hL : Laid w) : Calls Tryd.prog 14 #[.int .i64 n] w fun e w' => e = .returned (.string ⟨(Lib.itoa n).toArray⟩) ∧ Below w.heap.size w w' := by
  have HP := hid hL.pow
  go_enter Tryd.func14, Tryd.ntmps14
  go_wp2_with fail
  ((with_reducible refine (Tryd.strconv_FormatInt_10 n h0 h1 _ HP.out).mono ?_); rintro e w1 ⟨rfl, k, os, rfl⟩)
  go_wp2_with fail
  go_ret
  exact ⟨rfl, Lib.below_grow _ _ (Nat.le_refl _) _ _⟩
end Go.Proofs.YtadmmmehphhecaaDoor
