/- The walks of byted, char, Bits, in and marks.Plain: each returns what its plain function says, for lengths up to the bound that its statement names. -/
import Derived.Test.YtfadbbpnhppkpaaProg
import Derived.Test.YtfadbbpnhppkpaaFields
import Derived.Deep.QuietTactic
import Derived.BigQuiet
import Derived.Deep.RegionHeld3
import Derived.Deep.AppendLies
import Derived.Deep.DrawnRows
import Derived.Outline
set_option linter.unusedVariables false
set_option linter.unusedSimpArgs false
namespace Go.Proofs.Ytfadbbpnhppkpaa
open Go.RowKit
attribute [local go_sem ↓] Go.wp_at_zero Go.wp_at_succ
theorem Try.info42 : (Try.prog.info? 42).map (fun i => (i.zero, i.size, i.bytes)) = some (some (.agg #[.int .i64 0, .int .u8 0]), 2, 16) := by kernel_rfl
theorem Try.info5 : (Try.prog.info? 5).map (fun i => (i.zero, i.size, i.bytes)) = some (some (.int .u8 0), 1, 1) := by kernel_rfl

set_option maxHeartbeats 400000 in
theorem byted_any (k b : Int) (w : World) : Calls Try.prog 25 #[.agg #[.int .i64 k, .int .u8 b]] w fun e w' => e = .returned (.bool (decide (0 ≤ k) && decide (k ≤ 2))) ∧ w.alloc (.cells #[.int .i64 k, .int .u8 b] 42) = w' := by
  by_cases h : 0 ≤ k
  · go_enter Try.func25, Try.ntmps25
    go_wp2
    go_ret
    exact ⟨by simp [h], rfl⟩
  · go_enter Try.func25, Try.ntmps25
    go_wp2
    go_ret
    exact ⟨ret_bool (by rw [decide_eq_false (by omega)]; rfl), rfl⟩

set_option maxHeartbeats 400000 in
theorem char_any (k b : Int) (w : World) : Calls Try.prog 26 #[.agg #[.int .i64 k, .int .u8 b]] w fun e w' => e = .returned (.agg #[.int .u8 b, .bool (k == 1)]) ∧ (w.alloc (.cells #[.int .i64 k, .int .u8 b] 42)).alloc (.cells #[.int .u8 b, .bool (k == 1)] 49) = w' := by
  go_enter Try.func26, Try.ntmps26
  go_wp2
  exact bodyPost_ret (v := .agg #[.int .u8 b, .bool (k == 1)]) (by simp [results, Try.results26, go_sem]) rfl ⟨rfl, rfl⟩

set_option maxHeartbeats 400000 in
theorem bits_any (s : ByteArray) (kd : Int) (w : World) (hs : s.size ≤ 1000000) :
    Calls Try.prog 12 #[.string s, .int .i64 kd] w fun e w' => ∃ v', e = .returned v' ∧ Rd w' v' s.size (bts (s.data.toList.map fun c => (kd, c))) ∧ Below w.heap.size w w' := by
  obtain ⟨i0, hi, hz0, hz1, hz2⟩ := info_parts Try.info42
  go_enter Try.func12, Try.ntmps12
  go_wp2_with (at_make; refine wpList_make_full _ rfl _ _ 30 rfl w.heap.size 42 i0 _ 2 Try.underlying30 hi hz0 hz1 .i64 .i64 s.size s.size s.size rfl rfl rfl rfl (by rw [hz2]; omega) (by unfold maxLen; omega) (by omega) ?_; intro w1 hown hgrow)
  go_loopw [12] (fun i wr => ∃ (k : Nat) (zs : List Value), k ≤ s.size ∧ i = .int .i64 k ∧ zs.length = (s.size - k) * 2 ∧ wr.ownsRow w.heap.size 42 2 (.slice (some ⟨w.heap.size, 0, none⟩) s.size s.size) s.size (bts ((s.data.toList.take k).map fun c => (kd, c)) ++ zs) ∧ Below w.heap.size w wr) (fun i _ => s.size - (intOf i).toNat)
  case atStart => 
    exact ⟨0, _, Nat.zero_le _, rfl, by have := hown.1; simpa using this, hown, (Below.refl _ _).grown hgrow (Nat.le_refl _) (by simp)⟩
  case round =>
    obtain ⟨k, zs, hk, rfl, hzl, hown, hb⟩ := hrel
    by_cases hlt : k < s.size
    · match zs, hzl with
      | [], hzl => simp at hzl; omega
      | [_], hzl => simp at hzl; omega
      | a :: b :: zs, hzl =>
        have hf1 := hown.frozenAt (k * 2)
        have hf2 := hown.frozenAt (k * 2 + 1)
        have hsz := hb.size
        have ho2 := own_set2 hown k (by simp [bts_len]; omega) (.int .i64 kd) (.int .u8 (s[k].toNat : Int))
        have hc1 := hown.cellAt (k * 2) (by omega)
        have hc2 := hown.cellAt (k * 2 + 1) (by omega)
        have hl1 : (bts ((s.data.toList.take k).map fun c => (kd, c))).length = k * 2 := by simp [bts_len]; omega
        rw [List.getElem?_append_right (by omega), hl1] at hc1 hc2
        simp at hc1 hc2
        clear hown hl1
        go_wp2
        go_roundw
        case rel =>
          refine ⟨k + 1, zs, by omega, by go_num, by simp at hzl; omega, ?_, (hb.setCell (Nat.le_refl _) _).setCell (Nat.le_refl _) _⟩
          rw [List.take_succ_eq_append_getElem (by simpa using hlt), List.map_append, bts_append, List.append_assoc]
          exact ho2
        case measure => simp [intOf]; omega
    · obtain rfl : k = s.size := by omega
      have hz : zs = [] := List.eq_nil_of_length_eq_zero (by simpa using hzl)
      subst hz
      have hr := Rd.of_own hown
      rw [List.append_nil, List.take_of_length_le (by simp)] at hr
      clear hown hzl
      go_wp2
      go_ret
      exact ⟨_, rfl, hr, hb⟩

set_option maxHeartbeats 400000 in
theorem in_any (s : ByteArray) (c : UInt8) (w : World) (hs : s.size ≤ 9223372036854775807) :
    Calls Try.prog 10 #[.string s, .int .u8 (c.toNat : Int)] w fun e w' => e = .returned (.bool (hasB s.data.toList c)) ∧ w = w' := by
  go_enter Try.func10, Try.ntmps10
  go_wp2
  go_loop [5] (fun i => ∃ k : Nat, k ≤ s.size ∧ i = .int .i64 k ∧ hasB (s.data.toList.take k) c = false) (fun i => s.size - (intOf i).toNat)
  case atStart => exact ⟨0, Nat.zero_le _, rfl, rfl⟩
  case round =>
    obtain ⟨k, hk, rfl, hh⟩ := hrel
    have HH := hid hh
    clear hh
    by_cases hlt : k < s.size
    · have hl : k < s.data.toList.length := by simpa using hlt
      have hsn := hasB_snoc s.data.toList k hl c
      have hof := hid (hasB_of s.data.toList k hl c)
      rw [HH.out, Bool.false_or, show s.data.toList[k] = s[k] by rw [Array.getElem_toList]; rfl] at hsn
      have HN := hid hsn
      clear hsn
      by_cases he : s[k] = c
      · have hb : ((s[k].toNat : Int) == (c.toNat : Int)) = true := by rw [u8_eq]; simp [he]
        go_wp2
        go_ret
        exact ⟨ret_bool (hof.out (by rw [← he, Array.getElem_toList]; rfl)).symm, rfl⟩
      · have hb : ((s[k].toNat : Int) == (c.toNat : Int)) = false := by rw [u8_eq]; simp [he]
        go_wp2
        go_round
        case rel => exact ⟨k + 1, by omega, by go_num, by rw [HN.out]; simp [he]⟩
        case measure => simp [intOf]; omega
    · obtain rfl : k = s.size := by omega
      go_wp2
      go_ret
      have := HH.out
      rw [List.take_of_length_le (by simp)] at this
      exact ⟨ret_bool this.symm, rfl⟩
def bys (l : List UInt8) : List Value := l.map fun c => .int .u8 (c.toNat : Int)
set_option maxHeartbeats 400000 in
theorem plain_any (v : Value) (l : List (UInt8 × Bool)) (w : World) (h : Rd w v l.length (chs l)) (hl : l.length ≤ 1000000) :
    Calls Try.prog 19 #[v] w fun e w' => e = .returned (.string ⟨(l.map Prod.fst).toArray⟩) ∧ Below w.heap.size w w' := by
  obtain ⟨A, cap, rfl, hcap, hx⟩ := h.open_
  clear h
  obtain ⟨i0, hi, hz0, hz1, hz2⟩ := info_parts Try.info5
  go_enter Try.func19, Try.ntmps19
  go_wp2_with (at_make; refine wpList_make_full _ rfl _ _ 27 rfl w.heap.size 5 i0 _ 1 Try.underlying27 hi hz0 hz1 .i64 .i64 l.length l.length l.length rfl rfl rfl rfl (by rw [hz2]; omega) (by unfold maxLen; omega) (by omega) ?_; intro w1 hown hgrow)
  go_loopw [11] (fun i wr => ∃ (k : Nat) (zs : List Value), k ≤ l.length ∧ i = .int .i64 k ∧ zs.length = (l.length - k) ∧ wr.ownsRow w.heap.size 5 1 (.slice (some ⟨w.heap.size, 0, none⟩) l.length l.length) l.length (bys ((l.take k).map Prod.fst) ++ zs) ∧ Below w.heap.size w wr) (fun i _ => l.length - (intOf i).toNat)
  case atStart => 
    exact ⟨0, _, Nat.zero_le _, rfl, by have := hown.1; simpa using this, hown, (Below.refl _ _).grown hgrow (Nat.le_refl _) (by simp)⟩
  case round =>
    obtain ⟨k, zs, hk, rfl, hzl, hown, hb⟩ := hrel
    by_cases hlt : k < l.length
    · rcases hx with hx | ⟨b, off, rfl, hc⟩
      · exact (chs_ne hlt hx).elim
      · match zs, hzl with
        | [], hzl => simp at hzl; omega
        | a :: zs, hzl =>
          have hbw : b < w.heap.size := hc.lt (chs_pos (by omega))
          obtain ⟨hc1, hc2⟩ := (hc.below hb).ch k hlt
          clear hc
          have hf1 := hown.frozenAt k
          have hsz := hb.size
          have hg1 := (hown.lt _ rfl).2
          have ho2 := (own_set1 hown k (by simp [bys]; omega) (.int .u8 (l[k].1.toNat : Int))).alloc (.cells #[.int .u8 (l[k].1.toNat : Int), .bool l[k].2] 49)
          have hcc := hown.cellAt k (by omega)
          have hl1 : (bys ((l.take k).map Prod.fst)).length = k := by simp [bys]; omega
          rw [List.getElem?_append_right (by omega), hl1] at hcc
          simp at hcc
          clear hown hl1
          go_wp2
          go_roundw
          case rel =>
            refine ⟨k + 1, zs, by omega, by go_num, by simp at hzl; omega, ?_, (hb.setCell (Nat.le_refl _) _).alloc (by simp; omega) _⟩
            rw [List.take_succ_eq_append_getElem hlt, List.map_append]
            simpa [bys] using ho2
          case measure => simp [intOf]; omega
    · obtain rfl : k = l.length := by omega
      have hz : zs = [] := List.eq_nil_of_length_eq_zero (by simpa using hzl)
      subst hz
      rw [List.append_nil, List.take_length] at hown
      have hcells : ∀ j (hj : j < (l.map Prod.fst).length), wr.cell? ((⟨w.heap.size, 0, none⟩ : Addr).add j) = some (.int .u8 ((l.map Prod.fst)[j].toNat : Int)) := fun j hj => by
        rw [Addr.add_lit, Nat.zero_add, hown.cellAt j (by simpa using hj)]
        simp [bys, List.getElem?_eq_getElem (show j < l.length by simpa using hj)]
      have hcv := run_convert_bytes_back (P := Try.prog) wr 27 9 5 ⟨w.heap.size, 0, none⟩ l.length (l.map Prod.fst) Try.underlying27 Try.underlying5 Try.underlying9 hcells
      rw [List.length_map] at hcv
      clear hcells hown hzl hx
      go_wp2
      go_ret
      exact ⟨rfl, hb⟩
end Go.Proofs.Ytfadbbpnhppkpaa
