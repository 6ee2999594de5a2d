/- The walks of may, one, two of sums. No condition. -/
import Derived.Test.YtadmmmehphhecaaGreatDoorLg
import Derived.Test.YtadmmmehphhecaaGreatDoorLi
set_option linter.unusedVariables false
set_option linter.unusedSimpArgs false
namespace Go.Proofs.YtadmmmehphhecaaGreatDoor
open Go.RowKit
abbrev TEr : TypeId := 23
def errV (er : Int) : List PanicEntry := [{ v := .iface TEr (.int .i64 er), recovered := false }]
theorem may_ok (w : World) : Calls Tryz.prog 64 #[.int .i64 0] w fun e w' => e = .returned (.tuple #[]) ∧ w = w' := by
  go_enter Tryz.func64, Tryz.ntmps64
  go_wp2_with fail
  refine bodyPost_end (results_none rfl _ _ _) rfl ?_
  exact ⟨rfl, rfl⟩
theorem may_bad (er : Int) (h : er ≠ 0) (w : World) : Calls Tryz.prog 64 #[.int .i64 er] w fun e w' => e = .panicked (errV er) ∧ w = w' := by
  have hne : (er == 0) = false := by simpa using h
  go_enter Tryz.func64, Tryz.ntmps64
  go_wp2_with fail
  exact ⟨rfl, rfl, rfl⟩
theorem one_any (b : Bool) (w : World) : Calls Tryz.prog 67 #[.bool b] w fun e w' => e = .returned (.int .i64 (if b then 1 else 0)) ∧ w = w' := by
  cases b
  all_goals
    go_enter Tryz.func67, Tryz.ntmps67
    go_wp2_with fail
    go_ret
    exact ⟨rfl, rfl⟩
theorem and63 (b : Int) : bits .and .i64 b 63 = b % 64 := by
  have h1 : (BitVec.ofInt 64 b &&& BitVec.ofInt 64 63).toNat = (b % 64).toNat := by
    rw [BitVec.toNat_and, BitVec.toNat_ofInt]
    have : (BitVec.ofInt 64 63).toNat = 2 ^ 6 - 1 := by decide
    rw [this, Nat.and_two_pow_sub_one_eq_mod]
    omega
  show IntKind.i64.wrap ((BitVec.ofInt 64 b &&& BitVec.ofInt 64 63).toNat : Int) = b % 64
  rw [h1, IntWalk.i64_in _ (by omega)]
  omega
def TwoPost (op : List UInt8) (a b : Int) (w : World) (e : Ending) (w' : World) : Prop :=
  w = w' ∧ match twoV op a b with
    | .ok n => e = .returned (.int .i64 n)
    | .error er => e = .panicked (errV er)
theorem TwoPost.ok {op : List UInt8} {a b n m : Int} {w : World} (h : twoV op a b = .ok n) (hm : m = n) : TwoPost op a b w (.returned (.int .i64 m)) w := by
  subst hm; refine ⟨rfl, ?_⟩; rw [h]
theorem TwoPost.bad {op : List UInt8} {a b er : Int} {w : World} (h : twoV op a b = .error er) : TwoPost op a b w (.panicked (errV er)) w := by
  refine ⟨rfl, ?_⟩; rw [h]
set_option maxRecDepth 100000 in
set_option maxHeartbeats 4000000 in
theorem two_div (op : List UInt8) (a b : Int) (w : World) (hop : op = [47] ∨ op = [37]) : Calls Tryz.prog 68 #[.string ⟨op.toArray⟩, .int .i64 a, .int .i64 b] w (TwoPost op a b w) := by
  by_cases hb0 : b = 0
  · subst hb0
    have HB : Hid (twoV op a 0 = .error 24) := hid (by rcases hop with rfl | rfl <;> simp [twoV])
    rcases hop with rfl | rfl
    all_goals
      go_enter Tryz.func68, Tryz.ntmps68
      go_wp2_with fail
      ((with_reducible refine (may_bad 24 (by decide) _).mono ?_); rintro e1 w1 ⟨rfl, rfl⟩)
      exact ⟨rfl, TwoPost.bad HB.out⟩
  have hb1 : (b == 0) = false := by simpa using hb0
  by_cases hm : b = -1
  · subst hm
    rcases hop with rfl | rfl
    · go_enter Tryz.func68, Tryz.ntmps68
      go_wp2_with fail
      ((with_reducible refine (one_any _ _).mono ?_); rintro e1 w1 ⟨rfl, rfl⟩)
      go_wp2_with fail
      go_ret
      refine TwoPost.ok (n := wrap64 (-a)) (by simp [twoV]) ?_
      simp [wrap64]
    · go_enter Tryz.func68, Tryz.ntmps68
      go_wp2_with fail
      ((with_reducible refine (one_any _ _).mono ?_); rintro e1 w1 ⟨rfl, rfl⟩)
      go_wp2_with fail
      go_ret
      refine TwoPost.ok (n := 0) (by simp [twoV]) ?_
      simp [wrap64]
  have hm1 : (b == -1) = false := by simpa using hm
  rcases hop with rfl | rfl
  · go_enter Tryz.func68, Tryz.ntmps68
    go_wp2_with fail
    go_ret
    exact TwoPost.ok (n := wrap64 (a.tdiv b)) (by simp [twoV, hb0, hm]) rfl
  · go_enter Tryz.func68, Tryz.ntmps68
    go_wp2_with fail
    go_ret
    exact TwoPost.ok (n := a.tmod b) (by simp [twoV, hb0, hm]) rfl
set_option maxRecDepth 100000 in
set_option maxHeartbeats 4000000 in
theorem two_shift (op : List UInt8) (a b : Int) (w : World) (hop : op = [60, 60] ∨ op = [62, 62]) : Calls Tryz.prog 68 #[.string ⟨op.toArray⟩, .int .i64 a, .int .i64 b] w (TwoPost op a b w) := by
  have h63 := and63 b
  have hr0 : 0 ≤ b % 64 := by omega
  have hr1 : b % 64 ≤ 64 := by omega
  have hop' := hop
  obtain ⟨c, hc⟩ : ∃ c, c = b % 64 := ⟨_, rfl⟩
  have HC := hid hc
  rw [← hc] at h63 hr0 hr1
  clear hc
  rcases hop with rfl | rfl
  · go_enter Tryz.func68, Tryz.ntmps68
    go_wp2_with fail
    go_ret
    exact TwoPost.ok (n := wrap64 (a * 2 ^ c.toNat)) (by rw [HC.out]; simp [twoV]) rfl
  · go_enter Tryz.func68, Tryz.ntmps68
    go_wp2_with fail
    go_ret
    exact TwoPost.ok (n := a / 2 ^ c.toNat) (by rw [HC.out]; simp [twoV]) rfl
set_option maxRecDepth 100000 in
set_option maxHeartbeats 4000000 in
theorem two_cmp (op : List UInt8) (a b : Int) (w : World) (hop : op = [60] ∨ op = [60, 61] ∨ op = [62] ∨ op = [62, 61] ∨ op = [61, 61] ∨ op = [33, 61]) : Calls Tryz.prog 68 #[.string ⟨op.toArray⟩, .int .i64 a, .int .i64 b] w (TwoPost op a b w) := by
  rcases hop with rfl | rfl | rfl | rfl | rfl | rfl
  · by_cases h : a < b
    · have HB : Hid (twoV [60] a b = .ok 1) := hid (by simp [twoV, h])
      go_enter Tryz.func68, Tryz.ntmps68
      go_wp2_with fail
      ((with_reducible refine (one_any _ _).mono ?_); rintro e1 w1 ⟨rfl, rfl⟩)
      go_wp2_with fail
      go_ret
      exact TwoPost.ok HB.out (by simp [*])
    · have HB : Hid (twoV [60] a b = .ok 0) := hid (by simp [twoV, h])
      go_enter Tryz.func68, Tryz.ntmps68
      go_wp2_with fail
      ((with_reducible refine (one_any _ _).mono ?_); rintro e1 w1 ⟨rfl, rfl⟩)
      go_wp2_with fail
      go_ret
      exact TwoPost.ok HB.out (by simp [*])
  · by_cases h : a ≤ b
    · have HB : Hid (twoV [60, 61] a b = .ok 1) := hid (by simp [twoV, h])
      go_enter Tryz.func68, Tryz.ntmps68
      go_wp2_with fail
      ((with_reducible refine (one_any _ _).mono ?_); rintro e1 w1 ⟨rfl, rfl⟩)
      go_wp2_with fail
      go_ret
      exact TwoPost.ok HB.out (by simp [*])
    · have HB : Hid (twoV [60, 61] a b = .ok 0) := hid (by simp [twoV, h])
      go_enter Tryz.func68, Tryz.ntmps68
      go_wp2_with fail
      ((with_reducible refine (one_any _ _).mono ?_); rintro e1 w1 ⟨rfl, rfl⟩)
      go_wp2_with fail
      go_ret
      exact TwoPost.ok HB.out (by simp [*])
  · by_cases h : b < a
    · have HB : Hid (twoV [62] a b = .ok 1) := hid (by simp [twoV, h])
      go_enter Tryz.func68, Tryz.ntmps68
      go_wp2_with fail
      ((with_reducible refine (one_any _ _).mono ?_); rintro e1 w1 ⟨rfl, rfl⟩)
      go_wp2_with fail
      go_ret
      exact TwoPost.ok HB.out (by simp [*])
    · have HB : Hid (twoV [62] a b = .ok 0) := hid (by simp [twoV, h])
      go_enter Tryz.func68, Tryz.ntmps68
      go_wp2_with fail
      ((with_reducible refine (one_any _ _).mono ?_); rintro e1 w1 ⟨rfl, rfl⟩)
      go_wp2_with fail
      go_ret
      exact TwoPost.ok HB.out (by simp [*])
  · by_cases h : b ≤ a
    · have HB : Hid (twoV [62, 61] a b = .ok 1) := hid (by simp [twoV, h])
      go_enter Tryz.func68, Tryz.ntmps68
      go_wp2_with fail
      ((with_reducible refine (one_any _ _).mono ?_); rintro e1 w1 ⟨rfl, rfl⟩)
      go_wp2_with fail
      go_ret
      exact TwoPost.ok HB.out (by simp [*])
    · have HB : Hid (twoV [62, 61] a b = .ok 0) := hid (by simp [twoV, h])
      go_enter Tryz.func68, Tryz.ntmps68
      go_wp2_with fail
      ((with_reducible refine (one_any _ _).mono ?_); rintro e1 w1 ⟨rfl, rfl⟩)
      go_wp2_with fail
      go_ret
      exact TwoPost.ok HB.out (by simp [*])
  · by_cases h : a = b
    · have HB : Hid (twoV [61, 61] a b = .ok 1) := hid (by simp [twoV, h])
      have hbq : (a == b) = true := by simpa using h
      go_enter Tryz.func68, Tryz.ntmps68
      go_wp2_with fail
      ((with_reducible refine (one_any _ _).mono ?_); rintro e1 w1 ⟨rfl, rfl⟩)
      go_wp2_with fail
      go_ret
      exact TwoPost.ok HB.out (by simp [*])
    · have HB : Hid (twoV [61, 61] a b = .ok 0) := hid (by simp [twoV, h])
      have hbq : (a == b) = false := by simpa using h
      go_enter Tryz.func68, Tryz.ntmps68
      go_wp2_with fail
      ((with_reducible refine (one_any _ _).mono ?_); rintro e1 w1 ⟨rfl, rfl⟩)
      go_wp2_with fail
      go_ret
      exact TwoPost.ok HB.out (by simp [*])
  · by_cases h : a = b
    · have HB : Hid (twoV [33, 61] a b = .ok 0) := hid (by simp [twoV, h])
      have hbq : (a == b) = true := by simpa using h
      go_enter Tryz.func68, Tryz.ntmps68
      go_wp2_with fail
      ((with_reducible refine (one_any _ _).mono ?_); rintro e1 w1 ⟨rfl, rfl⟩)
      go_wp2_with fail
      go_ret
      exact TwoPost.ok HB.out (by simp [*])
    · have HB : Hid (twoV [33, 61] a b = .ok 1) := hid (by simp [twoV, h])
      have hbq : (a == b) = false := by simpa using h
      go_enter Tryz.func68, Tryz.ntmps68
      go_wp2_with fail
      ((with_reducible refine (one_any _ _).mono ?_); rintro e1 w1 ⟨rfl, rfl⟩)
      go_wp2_with fail
      go_ret
      exact TwoPost.ok HB.out (by simp [*])
set_option maxRecDepth 100000 in
set_option maxHeartbeats 4000000 in
theorem two_rest (op : List UInt8) (a b : Int) (w : World) (hop : op ∉ [[47], [37], [60, 60], [62, 62], [60], [60, 61], [62], [62, 61], [61, 61], [33, 61]]) : Calls Tryz.prog 68 #[.string ⟨op.toArray⟩, .int .i64 a, .int .i64 b] w (TwoPost op a b w) := by
  simp at hop
  obtain ⟨h1, h2, h3, h4, h5, h6, h7, h8, h9, h10⟩ := hop
  by_cases g0 : op = [42]
  · subst g0
    clear h1 h2 h3 h4 h5 h6 h7 h8 h9 h10
    go_enter Tryz.func68, Tryz.ntmps68
    go_wp2_with fail
    go_ret
    exact TwoPost.ok (n := wrap64 (a * b)) (by simp [twoV]) rfl
  by_cases g1 : op = [43]
  · subst g1
    clear h1 h2 h3 h4 h5 h6 h7 h8 h9 h10 g0
    go_enter Tryz.func68, Tryz.ntmps68
    go_wp2_with fail
    go_ret
    exact TwoPost.ok (n := wrap64 (a + b)) (by simp [twoV]) rfl
  by_cases g2 : op = [45]
  · subst g2
    clear h1 h2 h3 h4 h5 h6 h7 h8 h9 h10 g0 g1
    go_enter Tryz.func68, Tryz.ntmps68
    go_wp2_with fail
    go_ret
    exact TwoPost.ok (n := wrap64 (a - b)) (by simp [twoV]) rfl
  by_cases g3 : op = [38]
  · subst g3
    clear h1 h2 h3 h4 h5 h6 h7 h8 h9 h10 g0 g1 g2
    go_enter Tryz.func68, Tryz.ntmps68
    go_wp2_with fail
    go_ret
    exact TwoPost.ok (n := bits .and .i64 a b) (by simp [twoV]) rfl
  by_cases g4 : op = [94]
  · subst g4
    clear h1 h2 h3 h4 h5 h6 h7 h8 h9 h10 g0 g1 g2 g3
    go_enter Tryz.func68, Tryz.ntmps68
    go_wp2_with fail
    go_ret
    exact TwoPost.ok (n := bits .xor .i64 a b) (by simp [twoV]) rfl
  have HB : Hid (twoV op a b = .ok (bits .or .i64 a b)) := hid (by simp only [twoV]; rw [if_neg g0, if_neg (by simp [h1, h2]), if_neg g1, if_neg g2, if_neg h3, if_neg h4, if_neg h5, if_neg h6, if_neg h7, if_neg h8, if_neg h9, if_neg h10, if_neg g3, if_neg g4])
  have bh1 : (op == [47]) = false := by simpa using h1
  have bh2 : (op == [37]) = false := by simpa using h2
  have bh3 : (op == [60, 60]) = false := by simpa using h3
  have bh4 : (op == [62, 62]) = false := by simpa using h4
  have bh5 : (op == [60]) = false := by simpa using h5
  have bh6 : (op == [60, 61]) = false := by simpa using h6
  have bh7 : (op == [62]) = false := by simpa using h7
  have bh8 : (op == [62, 61]) = false := by simpa using h8
  have bh9 : (op == [61, 61]) = false := by simpa using h9
  have bh10 : (op == [33, 61]) = false := by simpa using h10
  have bg0 : (op == [42]) = false := by simpa using g0
  have bg1 : (op == [43]) = false := by simpa using g1
  have bg2 : (op == [45]) = false := by simpa using g2
  have bg3 : (op == [38]) = false := by simpa using g3
  have bg4 : (op == [94]) = false := by simpa using g4
  clear h1 h2 h3 h4 h5 h6 h7 h8 h9 h10 g0 g1 g2 g3 g4
  go_enter Tryz.func68, Tryz.ntmps68
  go_wp2_with fail
  go_ret
  exact TwoPost.ok HB.out rfl
theorem two_any (op : List UInt8) (a b : Int) (w : World) : Calls Tryz.prog 68 #[.string ⟨op.toArray⟩, .int .i64 a, .int .i64 b] w (TwoPost op a b w) := by
  by_cases h : op ∈ [[47], [37], [60, 60], [62, 62], [60], [60, 61], [62], [62, 61], [61, 61], [33, 61]]
  · simp only [List.mem_cons, List.not_mem_nil, or_false] at h
    rcases h with h | h | h | h | h
    · exact two_div op a b w (.inl h)
    · exact two_div op a b w (.inr h)
    · exact two_shift op a b w (.inl h)
    · exact two_shift op a b w (.inr h)
    · exact two_cmp op a b w h
  · exact two_rest op a b w h
end Go.Proofs.YtadmmmehphhecaaGreatDoor
