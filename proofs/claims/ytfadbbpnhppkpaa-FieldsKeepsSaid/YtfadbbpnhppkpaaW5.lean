/- The walk of awake: it returns true. No condition. -/
import Derived.Test.YtfadbbpnhppkpaaW4
set_option linter.unusedVariables false
set_option linter.unusedSimpArgs false
namespace Go.Proofs.Ytfadbbpnhppkpaa
open Go.RowKit

theorem aw1 : softOf [32, 58] [32, 97, 32, 32, 98, 32] = [97, 0, 98, 0] := by decide
theorem aw2 : softOf [32, 58] [97, 58, 98, 58, 58, 99, 58] = [97, 0, 98, 0, 0, 99, 0] := by decide
theorem aw3 : softOf [32, 58] [97, 32, 58, 32, 98] = [97, 0, 98, 0] := by decide
theorem aw4 : softOf [32, 58] [58, 32, 97] = [0, 97, 0] := by decide
theorem aw5 : (split [32] [(0, 120), (2, 32), (3, 0)]).length = 2 := by decide

theorem soft_at (s ifs : Array UInt8) (r : List UInt8) (w : World) (hs : s.size ≤ 100000) (h : softOf ifs.toList s.toList = r) :
    Calls Try.prog 9 #[.string ⟨s⟩, .string ⟨ifs⟩] w fun e w' => e = .returned (.string ⟨r.toArray⟩) ∧ Below w.heap.size w w' :=
  (soft_any ⟨s⟩ ⟨ifs⟩ w hs).mono fun e w' ⟨he, hb⟩ => ⟨by rw [he]; exact ret_val (by rw [← h]), hb⟩

set_option maxHeartbeats 1000000 in
theorem awake_any (w : World) : Calls Try.prog 8 #[] w fun e w' => e = .returned (.bool true) ∧ Below w.heap.size w w' := by
  go_enter Try.func8, Try.ntmps8
  go_wp2_with fail
  refine (soft_at _ _ _ _ (by decide) aw1).mono ?_; rintro e w1 ⟨rfl, hb1⟩
  go_wp2_with fail
  refine (soft_at _ _ _ _ (by decide) aw2).mono ?_; rintro e w2 ⟨rfl, hb2⟩
  go_wp2_with fail
  refine (soft_at _ _ _ _ (by decide) aw3).mono ?_; rintro e w3 ⟨rfl, hb3⟩
  go_wp2_with fail
  refine (soft_at _ _ _ _ (by decide) aw4).mono ?_; rintro e w4 ⟨rfl, hb4⟩
  go_wp2_with fail
  have hr : Rd (w4.alloc (.cells #[.int .i64 0, .int .u8 120, .int .i64 2, .int .u8 32, .int .i64 3, .int .u8 0] 42)) (.slice (some ⟨w4.heap.size, 0, none⟩) 3 3) [((0 : Int), (120 : UInt8)), (2, 32), (3, 0)].length (bts [(0, 120), (2, 32), (3, 0)]) :=
    ⟨_, 3, rfl, Nat.le_refl _, .inr ⟨w4.heap.size, 0, rfl, fun j u hu => by rw [Nat.zero_add, World.cell?_alloc_mark]; simpa [bts] using hu⟩⟩
  refine (split_any _ _ ⟨#[32]⟩ _ hr (by decide)).mono ?_
  rintro e w5 ⟨N, v5, vs, rfl, hrows, hb5⟩
  have hl := hrows.ln
  have haw : (split (ByteArray.data ⟨#[32]⟩).toList [(0, 120), (2, 32), (3, 0)]).length = 2 := aw5
  obtain ⟨A, cap, rfl, _⟩ := Rd.of_own hrows.ro
  rw [hl, haw]
  have hB := (((hb1.trans (hb2.mono hb1.size)).trans (hb3.mono (Nat.le_trans hb1.size hb2.size))).trans (hb4.mono (Nat.le_trans hb1.size (Nat.le_trans hb2.size hb3.size))))
  have hB5 := (hB.alloc hB.size _).trans (hb5.mono (by simp; have := hB.size; omega))
  clear hl haw hrows hr
  go_wp2
  go_ret
  exact ⟨rfl, hB5⟩
end Go.Proofs.Ytfadbbpnhppkpaa
