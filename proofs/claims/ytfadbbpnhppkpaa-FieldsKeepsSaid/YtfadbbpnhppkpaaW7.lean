/- The walks of whelklaw01.Text, whelklaw16.Plain, whelkref16.in, whelkref01.Same at equal lists, whelklaw01.Same at equal lists, for lengths up to the bounds that the statements name. -/
import Derived.Test.YtfadbbpnhppkpaaW5
import Derived.Deep.RegionHeld3
import Derived.Deep.AppendLies
import Derived.WalkSmall
import Derived.Laws.StructEq
set_option linter.unusedVariables false
set_option linter.unusedSimpArgs false
namespace Go.Proofs.Ytfadbbpnhppkpaa
open Go.RowKit
attribute [local go_sem ↓] Go.wp_at_zero Go.wp_at_succ
theorem Try.info57 : (Try.prog.info? 57).map (fun i => (i.zero, i.size, i.bytes)) = some (some (.agg #[.int .u8 0, .bool false]), 2, 2) := by kernel_rfl

set_option maxHeartbeats 400000 in
theorem text_any (v : Value) (l : List (UInt8 × Bool)) (w : World) (h : Rd w v l.length (chs l)) (hl : l.length ≤ 100000) :
    Calls Try.prog 16 #[v] w fun e w' => ∃ v', e = .returned v' ∧ Rd w' v' l.length (chs l) ∧ Below w.heap.size w w' := by
  obtain ⟨A, cap, rfl, hcap, hx⟩ := h.open_
  clear h
  obtain ⟨i0, hi, hz0, hz1, hz2⟩ := info_parts Try.info57
  go_enter Try.func16, Try.ntmps16
  go_wp2
  go_loopw [3, 4] (fun vo i wr => ∃ k : Nat, k ≤ l.length ∧ i = .int .i64 k ∧ wr.ownsRow w.heap.size 57 2 vo k (chs (l.take k)) ∧ Below w.heap.size w wr) (fun _ i _ => l.length - (intOf i).toNat)
  case atStart => exact ⟨0, Nat.zero_le _, rfl, World.ownsRow_nil _ _ _ _, Below.refl _ _⟩
  case round =>
    obtain ⟨k, hk, rfl, hown, hb⟩ := hrel
    by_cases hlt : k < l.length
    · rcases hx with hx | ⟨b, off, rfl, hc⟩
      · exact (chs_ne hlt hx).elim
      · have hbw : b < w.heap.size := hc.lt (chs_pos (by omega))
        obtain ⟨hc1, hc2⟩ := (hc.below hb).ch k hlt
        clear hc
        have ab : u3.ownBlock ≠ some b := fun e => by have := (hown.lt _ e).1; omega
        have hi0 : (0 : Int) ≤ (k : Int) := Int.natCast_nonneg _
        have hi1 : (k : Int) < (l.length : Int) := by omega
        have hsz := hb.size
        have HS := hid (chs_snoc l k hlt)
        go_wp2
        go_region_held3 (fun w' => w'.cell? ⟨b, off + k * 2, none⟩ = some (.int .u8 (l[k].1.toNat : Int)) ∧ w'.cell? ⟨b, off + k * 2 + 1, none⟩ = some (.bool l[k].2))
          (first | go_keep | (go_split_ands; refine ⟨?_, ?_⟩ <;> (rw [hgrow.cell_far _ (by simp; omega) (Ne.symm ab)]; assumption)))
          ((refine step_append_lies _ (by rfl) _ _ _ (by rfl) w.heap.size 57 i0 _ 2 2 Try.underlying38 hi hz0 hz1 hz2 rfl (by omega) u3 k (chs (l.take k)) (by rfl) ((hown.alloc _).drew) ⟨wr.heap.size, 0, none⟩ 1 1 [.int .u8 (l[k].1.toNat : Int), .bool l[k].2] (by rfl) (by rfl) (World.news_of_block (cs := #[.int .u8 (l[k].1.toNat : Int), .bool l[k].2]) (t := 57) (fr := (0, 0)) (heap_alloc_new wr _)) (by simp [Value.oneCell']) (by omega) (by unfold maxLen; omega) (by omega) (by simp; omega) (wr.heap.size + 1) (by simp) ?_; intro gg cap w1 hown1 hgrow hat hlt))
        go_wp2
        go_roundw
        case rel => exact ⟨k + 1, by omega, by go_num, by rw [HS.out]; exact hown1, ((hb.alloc hsz _).drew).grown hgrow (by simp; omega) (fun j hj => (hown.lt j hj).1)⟩
        case measure => simp [intOf]; omega
    · obtain rfl : k = l.length := by omega
      have hown' := Rd.of_own hown
      rw [List.take_length] at hown'
      go_wp2
      go_ret
      exact ⟨_, rfl, hown', hb⟩
theorem Try.info56 : (Try.prog.info? 56).map (fun i => (i.zero, i.size, i.bytes)) = some (some (.agg #[.int .i64 0, .int .u8 0]), 2, 16) := by kernel_rfl
set_option maxHeartbeats 400000 in
theorem plain16_any (v : Value) (l : List (Int × UInt8)) (w : World) (h : Rd w v l.length (bts l)) (hl : l.length ≤ 100000) :
    Calls Try.prog 14 #[v] w fun e w' => ∃ v', e = .returned v' ∧ Rd w' v' l.length (bts l) ∧ Below w.heap.size w w' := by
  obtain ⟨A, cap, rfl, hcap, hx⟩ := h.open_
  clear h
  obtain ⟨i0, hi, hz0, hz1, hz2⟩ := info_parts Try.info56
  go_enter Try.func14, Try.ntmps14
  go_wp2
  go_loopw [3, 4] (fun vo i wr => ∃ k : Nat, k ≤ l.length ∧ i = .int .i64 k ∧ wr.ownsRow w.heap.size 56 2 vo k (bts (l.take k)) ∧ Below w.heap.size w wr) (fun _ i _ => l.length - (intOf i).toNat)
  case atStart => exact ⟨0, Nat.zero_le _, rfl, World.ownsRow_nil _ _ _ _, Below.refl _ _⟩
  case round =>
    obtain ⟨k, hk, rfl, hown, hb⟩ := hrel
    by_cases hlt : k < l.length
    · rcases hx with hx | ⟨b, off, rfl, hc⟩
      · exact (bts_ne hlt hx).elim
      · have hbw : b < w.heap.size := hc.lt (bts_pos (by omega))
        obtain ⟨hc1, hc2⟩ := (hc.below hb).bt k hlt
        clear hc
        have ab : u3.ownBlock ≠ some b := fun e => by have := (hown.lt _ e).1; omega
        have hi0 : (0 : Int) ≤ (k : Int) := Int.natCast_nonneg _
        have hi1 : (k : Int) < (l.length : Int) := by omega
        have hsz := hb.size
        have HS := hid (bts_snoc l k hlt)
        go_wp2
        go_region_held3 (fun w' => w'.cell? ⟨b, off + k * 2, none⟩ = some (.int .i64 l[k].1) ∧ w'.cell? ⟨b, off + k * 2 + 1, none⟩ = some (.int .u8 (l[k].2.toNat : Int)))
          (first | go_keep | (go_split_ands; refine ⟨?_, ?_⟩ <;> (rw [hgrow.cell_far _ (by simp; omega) (Ne.symm ab)]; assumption)))
          ((refine step_append_lies _ (by rfl) _ _ _ (by rfl) w.heap.size 56 i0 _ 2 16 Try.underlying35 hi hz0 hz1 hz2 rfl (by omega) u3 k (bts (l.take k)) (by rfl) ((hown.alloc _).drew) ⟨wr.heap.size, 0, none⟩ 1 1 [.int .i64 l[k].1, .int .u8 (l[k].2.toNat : Int)] (by rfl) (by rfl) (World.news_of_block (cs := #[.int .i64 l[k].1, .int .u8 (l[k].2.toNat : Int)]) (t := 56) (fr := (0, 0)) (heap_alloc_new wr _)) (by simp [Value.oneCell']) (by omega) (by unfold maxLen; omega) (by omega) (by simp; omega) (wr.heap.size + 1) (by simp) ?_; intro gg cap w1 hown1 hgrow hat hlt))
        go_wp2
        go_roundw
        case rel => exact ⟨k + 1, by omega, by go_num, by rw [HS.out]; exact hown1, ((hb.alloc hsz _).drew).grown hgrow (by simp; omega) (fun j hj => (hown.lt j hj).1)⟩
        case measure => simp [intOf]; omega
    · obtain rfl : k = l.length := by omega
      have hown' := Rd.of_own hown
      rw [List.take_length] at hown'
      go_wp2
      go_ret
      exact ⟨_, rfl, hown', hb⟩
set_option maxHeartbeats 400000 in
theorem refin_any (s : ByteArray) (c : UInt8) (w : World) (hs : s.size ≤ 9223372036854775807) :
    Calls Try.prog 31 #[.string s, .int .u8 (c.toNat : Int)] w fun e w' => e = .returned (.bool (hasB s.data.toList c)) ∧ w = w' := by
  go_enter Try.func31, Try.ntmps31
  go_wp2
  go_loop [5] (fun i => ∃ k : Nat, k ≤ s.size ∧ i = .int .i64 k ∧ hasB (s.data.toList.take k) c = false) (fun i => s.size - (intOf i).toNat)
  case atStart => exact ⟨0, Nat.zero_le _, rfl, rfl⟩
  case round =>
    obtain ⟨k, hk, rfl, hh⟩ := hrel
    have HH := hid hh
    clear hh
    by_cases hlt : k < s.size
    · have hl : k < s.data.toList.length := by simpa using hlt
      have hsn := hasB_snoc s.data.toList k hl c
      have hof := hid (hasB_of s.data.toList k hl c)
      rw [HH.out, Bool.false_or, show s.data.toList[k] = s[k] by rw [Array.getElem_toList]; rfl] at hsn
      have HN := hid hsn
      clear hsn
      by_cases he : s[k] = c
      · have hb : ((s[k].toNat : Int) == (c.toNat : Int)) = true := by rw [u8_eq]; simp [he]
        go_wp2
        go_ret
        exact ⟨ret_bool (hof.out (by rw [← he, Array.getElem_toList]; rfl)).symm, rfl⟩
      · have hb : ((s[k].toNat : Int) == (c.toNat : Int)) = false := by rw [u8_eq]; simp [he]
        go_wp2
        go_round
        case rel => exact ⟨k + 1, by omega, by go_num, by rw [HN.out]; simp [he]⟩
        case measure => simp [intOf]; omega
    · obtain rfl : k = s.size := by omega
      go_wp2
      go_ret
      have := HH.out
      rw [List.take_of_length_le (by simp)] at this
      exact ⟨ret_bool this.symm, rfl⟩
set_option maxRecDepth 100000 in
set_option maxHeartbeats 800000 in
theorem same_any (va vb : Value) (l : List (UInt8 × Bool)) (w : World) (ha : Rd w va l.length (chs l)) (hb' : Rd w vb l.length (chs l)) (hl : l.length ≤ 1000000) :
    Calls Try.prog 15 #[va, vb] w fun e w' => e = .returned (.bool true) ∧ Below w.heap.size w w' := by
  obtain ⟨A, cap, rfl, hcap, hx⟩ := ha.open_
  obtain ⟨A2, cap2, rfl, hcap2, hx2⟩ := hb'.open_
  clear ha hb'
  have hn : ((l.length : Int) != (l.length : Int)) = false := by simp
  go_enter Try.func15, Try.ntmps15
  go_wp2
  go_loopw [5] (fun i wr => ∃ k : Nat, k ≤ l.length ∧ i = .int .i64 k ∧ Below w.heap.size w wr) (fun i _ => l.length - (intOf i).toNat)
  case atStart => exact ⟨0, Nat.zero_le _, rfl, Below.refl _ _⟩
  case round =>
    obtain ⟨k, hk, rfl, hb⟩ := hrel
    by_cases hlt : k < l.length
    · rcases hx with hx | ⟨b, off, rfl, hc⟩
      · exact (chs_ne hlt hx).elim
      · rcases hx2 with hx2 | ⟨b2, off2, rfl, hc2⟩
        · exact (chs_ne hlt hx2).elim
        · obtain ⟨p1, p2⟩ := (hc.below hb).ch k hlt
          obtain ⟨q1, q2⟩ := (hc2.below hb).ch k hlt
          clear hc hc2
          have hi0 : (0 : Int) ≤ (k : Int) := Int.natCast_nonneg _
          have hi1 : (k : Int) < (l.length : Int) := by omega
          go_wp2_with fail
          go_quiet (fail)
          go_wp2
          go_roundw
          case rel => exact ⟨k + 1, by omega, by go_num, below_drewN hb _⟩
          case measure => simp [intOf]; omega
    · go_wp2
      go_ret
      exact ⟨rfl, hb⟩
set_option maxHeartbeats 400000 in
theorem same01_any (va vb : Value) (l : List (UInt8 × Bool)) (w : World) (ha : Rd w va l.length (chs l)) (hb' : Rd w vb l.length (chs l)) (hl : l.length ≤ 100000) :
    Calls Try.prog 20 #[va, vb] w fun e w' => e = .returned (.bool true) ∧ Below w.heap.size w w' := by
  go_enter Try.func20, Try.ntmps20
  go_wp2_with fail
  refine (text_any va l _ ha hl).mono ?_; rintro e w1 ⟨v1, rfl, hr1, hb1⟩
  go_wp2_with fail
  refine (text_any vb l _ (hb'.below hb1) hl).mono ?_; rintro e w2 ⟨v2, rfl, hr2, hb2⟩
  go_wp2_with fail
  refine (same_any v1 v2 l _ (hr1.below hb2) hr2 (by omega)).mono ?_; rintro e w3 ⟨rfl, hb3⟩
  go_wp2
  go_ret
  have b2 := hb1.trans (hb2.mono hb1.size)
  exact ⟨rfl, b2.trans (hb3.mono b2.size)⟩
end Go.Proofs.Ytfadbbpnhppkpaa
