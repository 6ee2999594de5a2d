/- The walks of marks.Of, whelklaw01.Text, params.Choose at the arguments of the chapter's examples. -/
import Derived.Test.YthnmdhcgnimdfaaDoorG8
set_option linter.unusedVariables false
set_option linter.unusedSimpArgs false
namespace Go.Proofs.YthnmdhcgnimdfaaDoor
open Go.RowKit
attribute [local go_sem ↓] Go.wp_at_zero Go.wp_at_succ
theorem Tryd.info55 : (Tryd.prog.info? 55).map (fun i => (i.zero, i.size, i.bytes)) = some (some (.agg #[.int .u8 0, .bool false]), 2, 2) := by kernel_rfl
theorem Tryd.info56 : (Tryd.prog.info? 56).map (fun i => (i.zero, i.size, i.bytes)) = some (some (.agg #[.int .u8 0, .bool false]), 2, 2) := by kernel_rfl
def mk (q : Bool) (l : List UInt8) : List Ch := l.map fun c => (c, q)
set_option maxHeartbeats 400000 in
theorem of_any (s : ByteArray) (q : Bool) (w : World) (hs : s.size ≤ 1000000) :
    Calls Tryd.prog 11 #[.string s, .bool q] w fun e w' => ∃ v', e = .returned v' ∧ Rd w' v' (mk q s.data.toList).length (chs (mk q s.data.toList)) ∧ Below w.heap.size w w' := by
  obtain ⟨i0, hi, hz0, hz1, hz2⟩ := info_parts Tryd.info55
  go_enter Tryd.func11, Tryd.ntmps11
  go_wp2_with (at_make; refine wpList_make_full _ rfl _ _ 22 rfl w.heap.size 55 i0 _ 2 Tryd.underlying22 hi hz0 hz1 .i64 .i64 s.size s.size s.size rfl rfl rfl rfl (by rw [hz2]; omega) (by unfold maxLen; omega) (by omega) ?_; intro w1 hown hgrow)
  go_loopw [12] (fun i wr => ∃ (k : Nat) (zs : List Value), k ≤ s.size ∧ i = .int .i64 k ∧ zs.length = (s.size - k) * 2 ∧ wr.ownsRow w.heap.size 55 2 (.slice (some ⟨w.heap.size, 0, none⟩) s.size s.size) s.size (chs (mk q (s.data.toList.take k)) ++ zs) ∧ Below w.heap.size w wr) (fun i _ => s.size - (intOf i).toNat)
  case atStart => 
    exact ⟨0, _, Nat.zero_le _, rfl, by have := hown.1; simpa using this, hown, (Below.refl _ _).grown hgrow (Nat.le_refl _) (by simp)⟩
  case round =>
    obtain ⟨k, zs, hk, rfl, hzl, hown, hb⟩ := hrel
    by_cases hlt : k < s.size
    · match zs, hzl with
      | [], hzl => simp at hzl; omega
      | [_], hzl => simp at hzl; omega
      | a :: b :: zs, hzl =>
        have hf1 := hown.frozenAt (k * 2)
        have hf2 := hown.frozenAt (k * 2 + 1)
        have hsz := hb.size
        have ho2 := own_set2 hown k (by simp [chs_len, mk]; omega) (.int .u8 (s[k].toNat : Int)) (.bool q)
        have hc1 := hown.cellAt (k * 2) (by omega)
        have hc2 := hown.cellAt (k * 2 + 1) (by omega)
        have hl1 : (chs (mk q (s.data.toList.take k))).length = k * 2 := by simp [chs_len, mk]; omega
        rw [List.getElem?_append_right (by omega), hl1] at hc1 hc2
        simp at hc1 hc2
        clear hown hl1
        go_wp2
        go_roundw
        case rel =>
          refine ⟨k + 1, zs, by omega, by go_num, by simp at hzl; omega, ?_, (hb.setCell (Nat.le_refl _) _).setCell (Nat.le_refl _) _⟩
          rw [List.take_succ_eq_append_getElem (by simpa using hlt), mk, List.map_append, chs_append, List.append_assoc]
          exact ho2
        case measure => simp [intOf]; omega
    · obtain rfl : k = s.size := by omega
      have hz : zs = [] := List.eq_nil_of_length_eq_zero (by simpa using hzl)
      subst hz
      have hr := Rd.of_own hown
      rw [List.append_nil, List.take_of_length_le (by simp)] at hr
      have hml : (mk q s.data.toList).length = s.size := by simp [mk]
      rw [← hml] at hr
      clear hown hzl
      go_wp2
      go_ret
      rw [hml] at hr ⊢
      exact ⟨_, rfl, hr, hb⟩
set_option maxHeartbeats 400000 in
theorem text_any (v : Value) (l : List (UInt8 × Bool)) (w : World) (h : Rd w v l.length (chs l)) (hl : l.length ≤ 100000) :
    Calls Tryd.prog 10 #[v] w fun e w' => ∃ v', e = .returned v' ∧ Rd w' v' l.length (chs l) ∧ Below w.heap.size w w' := by
  obtain ⟨A, cap, rfl, hcap, hx⟩ := h.open_
  clear h
  obtain ⟨i0, hi, hz0, hz1, hz2⟩ := info_parts Tryd.info56
  go_enter Tryd.func10, Tryd.ntmps10
  go_wp2
  go_loopw [3, 4] (fun vo i wr => ∃ k : Nat, k ≤ l.length ∧ i = .int .i64 k ∧ wr.ownsRow w.heap.size 56 2 vo k (chs (l.take k)) ∧ Below w.heap.size w wr) (fun _ i _ => l.length - (intOf i).toNat)
  case atStart => exact ⟨0, Nat.zero_le _, rfl, World.ownsRow_nil _ _ _ _, Below.refl _ _⟩
  case round =>
    obtain ⟨k, hk, rfl, hown, hb⟩ := hrel
    by_cases hlt : k < l.length
    · rcases hx with hx | ⟨b, off, rfl, hc⟩
      · exact (chs_ne hlt hx).elim
      · have hbw : b < w.heap.size := hc.lt (chs_pos (by omega))
        obtain ⟨hc1, hc2⟩ := (hc.below hb).ch k hlt
        clear hc
        have ab : u3.ownBlock ≠ some b := fun e => by have := (hown.lt _ e).1; omega
        have hi0 : (0 : Int) ≤ (k : Int) := Int.natCast_nonneg _
        have hi1 : (k : Int) < (l.length : Int) := by omega
        have hsz := hb.size
        have HS := hid (chs_snoc l k hlt)
        go_wp2
        go_region_held3 (fun w' => w'.cell? ⟨b, off + k * 2, none⟩ = some (.int .u8 (l[k].1.toNat : Int)) ∧ w'.cell? ⟨b, off + k * 2 + 1, none⟩ = some (.bool l[k].2))
          (first | go_keep | (go_split_ands; refine ⟨?_, ?_⟩ <;> (rw [hgrow.cell_far _ (by simp; omega) (Ne.symm ab)]; assumption)))
          ((refine step_append_lies _ (by rfl) _ _ _ (by rfl) w.heap.size 56 i0 _ 2 2 Tryd.underlying28 hi hz0 hz1 hz2 rfl (by omega) u3 k (chs (l.take k)) (by rfl) ((hown.alloc _).drew) ⟨wr.heap.size, 0, none⟩ 1 1 [.int .u8 (l[k].1.toNat : Int), .bool l[k].2] (by rfl) (by rfl) (World.news_of_block (cs := #[.int .u8 (l[k].1.toNat : Int), .bool l[k].2]) (t := 56) (fr := (0, 0)) (heap_alloc_new wr _)) (by simp [Value.oneCell']) (by omega) (by unfold maxLen; omega) (by omega) (by simp; omega) (wr.heap.size + 1) (by simp) ?_; intro gg cap w1 hown1 hgrow hat hlt))
        go_wp2
        go_roundw
        case rel => exact ⟨k + 1, by omega, by go_num, by rw [HS.out]; exact hown1, ((hb.alloc hsz _).drew).grown hgrow (by simp; omega) (fun j hj => (hown.lt j hj).1)⟩
        case measure => simp [intOf]; omega
    · obtain rfl : k = l.length := by omega
      have hown' := Rd.of_own hown
      rw [List.take_length] at hown'
      go_wp2
      go_ret
      exact ⟨_, rfl, hown', hb⟩
theorem when_yes (a b : Int) (w : World) : Calls Tryd.prog 34 #[.bool true, .int .i64 a, .int .i64 b] w fun e w' => e = .returned (.int .i64 a) ∧ w = w' := by
  go_enter Tryd.func34, Tryd.ntmps34
  go_wp2
  go_ret
  exact ⟨rfl, rfl⟩
theorem when_no (a b : Int) (w : World) : Calls Tryd.prog 34 #[.bool false, .int .i64 a, .int .i64 b] w fun e w' => e = .returned (.int .i64 b) ∧ w = w' := by
  go_enter Tryd.func34, Tryd.ntmps34
  go_wp2
  go_ret
  exact ⟨rfl, rfl⟩
set_option maxHeartbeats 400000 in
theorem choose_1 (w : World) : Calls Tryd.prog 21 #[.int .i64 2, .bool true, .bool true, .string ⟨#[]⟩] w fun e w' => e = .returned (.int .i64 2) ∧ w = w' := by
  go_enter Tryd.func21, Tryd.ntmps21
  go_wp2_with fail
  ((with_reducible refine (when_no _ _ _).mono ?_); rintro e w1 ⟨rfl, rfl⟩)
  go_wp2_with fail
  go_ret
  exact ⟨rfl, rfl⟩
set_option maxHeartbeats 400000 in
theorem choose_2 (w : World) : Calls Tryd.prog 21 #[.int .i64 2, .bool false, .bool true, .string ⟨#[]⟩] w fun e w' => e = .returned (.int .i64 1) ∧ w = w' := by
  go_enter Tryd.func21, Tryd.ntmps21
  go_wp2_with fail
  ((with_reducible refine (when_yes _ _ _).mono ?_); rintro e w1 ⟨rfl, rfl⟩)
  go_wp2_with fail
  go_ret
  exact ⟨rfl, rfl⟩
set_option maxHeartbeats 400000 in
theorem choose_3 (w : World) : Calls Tryd.prog 21 #[.int .i64 5, .bool true, .bool true, .string ⟨#[]⟩] w fun e w' => e = .returned (.int .i64 4) ∧ w = w' := by
  go_enter Tryd.func21, Tryd.ntmps21
  go_wp2_with fail
  ((with_reducible refine (when_no _ _ _).mono ?_); rintro e w1 ⟨rfl, rfl⟩)
  go_wp2_with fail
  go_ret
  exact ⟨rfl, rfl⟩
end Go.Proofs.YthnmdhcgnimdfaaDoor
