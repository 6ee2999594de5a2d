/- The walk of sums.mark: the longest mark at the beginning of a text. No condition but that a text's length fits an int. -/
import Derived.Test.YtadmmmehphhecaaGreatDoorC
set_option linter.unusedVariables false
set_option linter.unusedSimpArgs false
namespace Go.Proofs.YtadmmmehphhecaaGreatDoor
open Go.RowKit
def bigM : List (List UInt8) := [[60, 60, 61], [62, 62, 61], [60, 60], [62, 62], [60, 61], [62, 61], [61, 61], [33, 61], [38, 38], [124, 124], [43, 61], [45, 61], [42, 61], [47, 61], [37, 61], [38, 61], [94, 61], [124, 61]]
def oneM : List UInt8 := [43, 45, 42, 47, 37, 60, 62, 61, 33, 126, 38, 94, 124, 40, 41, 63, 58]
def markF (l : List UInt8) : List UInt8 :=
  if 3 ≤ l.length ∧ l.take 3 ∈ bigM then l.take 3 else if 2 ≤ l.length ∧ l.take 2 ∈ bigM then l.take 2 else
    match l with
    | [] => []
    | c :: _ => if c ∈ oneM then [c] else []
theorem ret_strL {a b : List UInt8} (h : a = b) : Ending.returned (.string ⟨a.toArray⟩) = .returned (.string ⟨b.toArray⟩) := by rw [h]
theorem one_index (c : UInt8) : decide (0 ≤ Lib.indexByte oneM c) = decide (c ∈ oneM) := by
  revert c; apply all_u8; decide +kernel
theorem toNat_toUInt8 (c : UInt8) : (c.toNat : Int).toNat.toUInt8 = c := by simp
set_option maxHeartbeats 2000000 in
theorem mark_any (s : ByteArray) (w : World) (hs : s.size ≤ 9223372036854775807) :
    Calls Tryz.prog 75 #[.string s] w fun e w' => e = .returned (.string ⟨(markF s.data.toList).toArray⟩) ∧ w = w' := by
  obtain ⟨l, hl⟩ : ∃ l, l = s.data.toList := ⟨_, rfl⟩
  have hll : l.length = s.size := by rw [hl]; simp
  have hx : ∀ n, (s.extract 0 n).data.toList = l.take n := fun n => by rw [ext_list, hl]; simp
  obtain ⟨n0, hmin, hn3, hns, hn4⟩ : ∃ n0 : Nat, min (3 : Int) (s.size : Int) = (n0 : Int) ∧ n0 ≤ 3 ∧ n0 ≤ s.size ∧ (3 ≤ n0 ∨ n0 = s.size) := ⟨min 3 s.size, by omega, by omega, by omega, by omega⟩
  have HLL := hid hll
  have HX := hid hx
  have HL := hid hl
  rw [← hl]
  have H4 := hid hn4
  clear hll hx hl hn4
  go_enter Tryz.func75, Tryz.ntmps75
  go_wp2_with fail
  go_loop [3] (fun vn => ∃ n : Nat, n ≤ 3 ∧ n ≤ s.size ∧ vn = .int .i64 n ∧ Hid (∀ j, n < j → 2 ≤ j → j ≤ 3 → j ≤ s.size → l.take j ∉ bigM)) (fun vn => (intOf vn).toNat)
  case atStart => exact ⟨n0, hn3, hns, rfl, hid (fun j h1 h2 h3 h4 => by have := H4.out; omega)⟩
  case round =>
    clear hmin hn3 hns H4
    obtain ⟨n, hn3, hns, rfl, HN⟩ := hrel
    by_cases hgt : 1 < n
    · obtain ⟨x, hxe, hxl⟩ : ∃ x : List UInt8, s.extract 0 n = ⟨x.toArray⟩ ∧ x = l.take n := ⟨_, ByteArray.ext (by rw [← HX.out n]), rfl⟩
      have HXL := hid hxl
      have hmb : Hid (x ∈ bigM → markF l = x) := hid (fun hm => by
        rw [HXL.out] at hm ⊢
        unfold markF
        have h23 : n = 2 ∨ n = 3 := by omega
        rcases h23 with rfl | rfl
        · rw [if_neg (by rintro ⟨h1, h2⟩; exact HN.out 3 (by omega) (by omega) (by omega) (by rw [← HLL.out]; exact h1) h2), if_pos ⟨by rw [HLL.out]; exact hns, hm⟩]
        · rw [if_pos ⟨by rw [HLL.out]; exact hns, hm⟩])
      have hnb : Hid (x ∉ bigM → ∀ j, n - 1 < j → 2 ≤ j → j ≤ 3 → j ≤ s.size → l.take j ∉ bigM) := hid (fun hm j h1 h2 h3 h4 => by
        by_cases hj : j = n
        · rw [hj, ← HXL.out]; exact hm
        · exact HN.out j (by omega) h2 h3 h4)
      clear hxl
      by_cases hm : x ∈ bigM
      · have HR := hid (hmb.out hm)
        have HM := hid hm
        clear hm
        go_wp2_with fail
        all_goals first
          | (go_ret; exact ⟨ret_strL HR.out.symm, rfl⟩)
          | (exfalso; have := HM.out; simp_all [bigM]; done)
      · have HR := hid (hnb.out hm)
        have HM := hid hm
        clear hm
        go_wp2_with fail
        all_goals first
          | (go_round
             case rel => exact ⟨n - 1, by omega, by omega, by go_num, HR⟩
             case measure => simp [intOf]; omega)
          | (exfalso; apply HM.out; simp_all [bigM]; done)
    · cases l with
      | nil =>
        have h0 : s.size = 0 := by rw [← HLL.out]; rfl
        obtain rfl : s = ⟨#[]⟩ := ByteArray.ext (Array.eq_empty_of_size_eq_zero h0)
        clear HN
        go_wp2_with fail
        go_ret
        exact ⟨ret_strL rfl, rfl⟩
      | cons c r =>
        have h0 : 0 < s.size := by rw [← HLL.out]; simp
        have hc : s[0] = c := by
          have h1 : s.data.toList[0]'(by simpa using h0) = c := by simp only [← HL.out]; rfl
          rw [Array.getElem_toList] at h1; exact h1
        have hemp : s.toList.isEmpty = false := by
          rw [← decide_eq_emptyBytes]
          exact decide_eq_false (fun h => by rw [h] at h0; exact absurd h0 (by decide))
        have HF : Hid (markF (c :: r) = if c ∈ oneM then [c] else []) := hid (by
          unfold markF
          rw [if_neg (by rintro ⟨h1, h2⟩; exact HN.out 3 (by omega) (by omega) (by omega) (by rw [← HLL.out]; exact h1) h2), if_neg (by rintro ⟨h1, h2⟩; exact HN.out 2 (by omega) (by omega) (by omega) (by rw [← HLL.out]; exact h1) h2)])
        have HI := hid (one_index c)
        have h1e : s.extract 0 1 = ⟨#[c]⟩ := ByteArray.ext (by rw [← Array.toList_inj, HX.out 1]; rfl)
        clear HN
        go_wp2_with fail
        ((with_reducible refine (Tryz.strings_IndexByte _ _ _).mono ?_); rintro e w1 ⟨rfl, rfl⟩)
        rw [toNat_toUInt8]
        by_cases hm : c ∈ oneM
        · rw [if_pos hm] at HF
          have hi : decide (0 ≤ Lib.indexByte oneM c) = true := by rw [HI.out]; simpa using hm
          clear hm
          rw [show (⟨#[43, 45, 42, 47, 37, 60, 62, 61, 33, 126, 38, 94, 124, 40, 41, 63, 58]⟩ : ByteArray).data.toList = oneM from rfl]
          generalize Lib.indexByte oneM c = q at *
          go_wp2_with fail
          go_ret
          exact ⟨ret_strL HF.out.symm, rfl⟩
        · rw [if_neg hm] at HF
          have hi : decide (0 ≤ Lib.indexByte oneM c) = false := by rw [HI.out]; simpa using hm
          clear hm
          rw [show (⟨#[43, 45, 42, 47, 37, 60, 62, 61, 33, 126, 38, 94, 124, 40, 41, 63, 58]⟩ : ByteArray).data.toList = oneM from rfl]
          generalize Lib.indexByte oneM c = q at *
          go_wp2_with fail
          go_ret
          exact ⟨ret_strL HF.out.symm, rfl⟩
end Go.Proofs.YtadmmmehphhecaaGreatDoor
