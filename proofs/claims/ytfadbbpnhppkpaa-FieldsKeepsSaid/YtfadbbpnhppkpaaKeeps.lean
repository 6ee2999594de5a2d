/- The walk of FieldsKeeps: it returns true at every input. No condition but that lengths fit an int. -/
import Derived.Test.YtfadbbpnhppkpaaW12
import Derived.Test.YtfadbbpnhppkpaaKeepsLaw
import Derived.Test.YtfadbbpnhppkpaaW5
import Derived.BigQuiet
set_option linter.unusedVariables false
set_option linter.unusedSimpArgs false
namespace Go.Proofs.Ytfadbbpnhppkpaa
open Go.RowKit
attribute [local go_sem ↓] Go.wp_at_zero Go.wp_at_succ
set_option maxRecDepth 100000 in
set_option maxHeartbeats 2000000 in
theorem keeps_any (v : Value) (l : List (Int × UInt8)) (ifs : ByteArray) (w : World) (h : Rd w v l.length (bts l)) (hl9 : l.length ≤ 9223372036854775807) (hi9 : ifs.size ≤ 9223372036854775807) :
    Calls Try.prog 7 #[v, .string ifs] w fun e w' => e = .returned (.bool true) ∧ Below w.heap.size w w' := by
  obtain ⟨A, cap, rfl, hcap, hx⟩ := h.open_
  by_cases h1 : 300 < l.length
  · clear h
    go_enter Try.func7, Try.ntmps7
    go_wp2_with (go_at_call 8; refine (awake_any _).mono ?_; rintro e w1 ⟨rfl, hb1⟩)
    go_ret
    exact ⟨rfl, hb1⟩
  by_cases h2 : 100 < ifs.size
  · clear h
    go_enter Try.func7, Try.ntmps7
    go_wp2_with (go_at_call 8; refine (awake_any _).mono ?_; rintro e w1 ⟨rfl, hb1⟩)
    go_ret
    exact ⟨rfl, hb1⟩
  have d1 : decide ((300 : Int) < (l.length : Int)) = false := by simp; omega
  have d2 : decide ((100 : Int) < (ifs.size : Int)) = false := by simp; omega
  obtain ⟨i0, hi, hz0, hz1, hz2⟩ := info_parts Try.info49
  have HR := hid h
  clear h
  go_enter Try.func7, Try.ntmps7
  go_wp2
  go_loopw [5, 6] (fun vo i wr => ∃ k : Nat, k ≤ l.length ∧ i = .int .i64 k ∧ wr.ownsRow w.heap.size 49 2 vo (keeps ifs.data.toList (l.take k)).length (chs (keeps ifs.data.toList (l.take k))) ∧ Below w.heap.size w wr) (fun _ i _ => l.length - (intOf i).toNat)
  case atStart => exact ⟨0, Nat.zero_le _, rfl, World.ownsRow_nil _ _ _ _, Below.refl _ _⟩
  case round =>
    obtain ⟨k, hk, rfl, hown, hb⟩ := hrel
    by_cases hlt : k < l.length
    · rcases hx with hx | ⟨b, off, rfl, hc⟩
      · exact (bts_ne hlt hx).elim
      · have hbw : b < w.heap.size := hc.lt (bts_pos (by omega))
        obtain ⟨hc1, hc2⟩ := (hc.below hb).bt k hlt
        clear hc
        have ab : u5.ownBlock ≠ some b := fun e => by have := (hown.lt _ e).1; omega
        have hi0 : (0 : Int) ≤ (k : Int) := Int.natCast_nonneg _
        have hi1 : (k : Int) < (l.length : Int) := by omega
        have hsz := hb.size
        have HS := hid (keeps_snoc ifs.data.toList l k hlt)
        have hkl := keeps_len ifs.data.toList (l.take k)
        have hmin : (l.take k).length ≤ k := List.length_take_le _ _
        obtain ⟨kd, c, hkc⟩ : ∃ kd c, l[k] = (kd, c) := ⟨_, _, rfl⟩
        rw [hkc] at hc1 hc2 HS
        clear hkc
        generalize keeps ifs.data.toList (l.take k) = kp at *
        have hkp : kp.length ≤ 300 := by omega
        clear hkl hmin
        by_cases hkeep : byteB kd = true ∧ softB ifs.data.toList (kd, c) = false
        · have hk1 := hid (keep1_yes hkeep.1 hkeep.2)
          obtain ⟨hby, hsf⟩ := hkeep
          simp only [byteB, Bool.and_eq_true, decide_eq_true_eq] at hby
          obtain ⟨hb0, hb2⟩ := hby
          have hcase : ((kd == 2) = true ∧ 1 < kd ∧ hasB ifs.data.toList c = false) ∨ kd ≤ 1 := by
            by_cases e : kd = 2
            · subst e; exact .inl ⟨rfl, by omega, by simpa [softB] using hsf⟩
            · right; omega
          clear hsf
          rcases hcase with ⟨hk2, hk3, hn⟩ | hle
          all_goals
            go_wp2_with (go_at_call 10; refine (in_any ifs c _ hi9).mono ?_; rintro e wx ⟨rfl, rfl⟩; rw [hn])
            go_region_held3 (fun w' => w'.cell? ⟨b, off + k * 2, none⟩ = some (.int .i64 kd) ∧ w'.cell? ⟨b, off + k * 2 + 1, none⟩ = some (.int .u8 (c.toNat : Int)))
              (first | go_keep | (go_split_ands; refine ⟨?_, ?_⟩ <;> (rw [hgrow.cell_far _ (by simp; omega) (Ne.symm ab)]; assumption)))
              ((refine step_append_lies _ (by rfl) _ _ _ (by rfl) w.heap.size 49 i0 _ 2 2 Try.underlying40 hi hz0 hz1 hz2 rfl (by omega) u5 kp.length (chs kp) (by rfl) ((hown.alloc _).drew) ⟨wr.heap.size, 0, none⟩ 1 1 [.int .u8 (c.toNat : Int), .bool (kd == 1)] (by rfl) (by rfl) (World.news_of_block (cs := #[.int .u8 (c.toNat : Int), .bool (kd == 1)]) (t := 49) (fr := (0, 0)) (heap_alloc_new wr _)) (by simp [Value.oneCell']) (by omega) (by unfold maxLen; omega) (by omega) (by simp; omega) (wr.heap.size + 1) (by simp) ?_; intro gg cap w1 hown1 hgrow hat hlt))
            have hbF := ((hb.alloc hsz _).drew).grown hgrow (by simp; omega) (fun j hj => (hown.lt j hj).1)
            clear hown hb hgrow hat hc1 hc2
            go_wp2
            go_roundw
            case rel => exact ⟨k + 1, by omega, by go_num, by rw [HS.out, hk1.out, chs_append, List.length_append]; exact hown1, hbF⟩
            case measure => simp [intOf]; omega
        · by_cases hs2 : kd = 2
          · subst hs2
            have hsf : softB ifs.data.toList (2, c) = true := by
              cases hs : softB ifs.data.toList (2, c)
              · exact (hkeep ⟨rfl, hs⟩).elim
              · rfl
            have hk1 := hid (keep1_soft hsf)
            have hn : hasB ifs.data.toList c = true := by simpa [softB] using hsf
            clear hsf hkeep
            go_wp2_with (go_at_call 10; refine (in_any ifs c _ hi9).mono ?_; rintro e wx ⟨rfl, rfl⟩; rw [hn])
            go_roundw
            case rel => exact ⟨k + 1, by omega, by go_num, by rw [HS.out, hk1.out, List.append_nil]; exact hown, hb⟩
            case measure => simp [intOf]; omega
          · have hby : byteB kd = false := by
              cases hbk : byteB kd
              · rfl
              · have e2 : (kd == 2) = false := by simpa using hs2
                exact (hkeep ⟨hbk, by simp [softB, e2]⟩).elim
            have hk1 := hid (keep1_no (ifs := ifs.data.toList) (c := c) hby)
            have e2 : (kd == 2) = false := by simpa using hs2
            have hor : kd < 0 ∨ 2 < kd := by simp [byteB] at hby; omega
            clear hkeep hby hs2
            rcases hor with hor | hor
            all_goals
              go_wp2
              go_roundw
              case rel => exact ⟨k + 1, by omega, by go_num, by rw [HS.out, hk1.out, List.append_nil]; exact hown, hb⟩
              case measure => simp [intOf]; omega
    · obtain rfl : k = l.length := by omega
      rw [List.take_length] at hown
      have hw := Rd.of_own hown
      have hkl := keeps_len ifs.data.toList l
      have hsp := split_flat ifs.data.toList l
      have hsl := split_len ifs.data.toList l
      clear hown hx
      go_wp2_with fail
      refine (split_any _ l ifs _ (HR.out.below hb) (by omega)).mono ?_
      rintro e w1 ⟨N, v1, vs1, rfl, hrows, hb1⟩
      have hR1 := RdR.of_rows hrows
      have hw1 := hw.below hb1
      have hB1 := hb.trans (hb1.mono hb.size)
      clear hrows
      have htot : tot (split ifs.data.toList l) ≤ 1000000 := by unfold tot; rw [hsp]; omega
      go_wp2_with fail
      refine (join_any _ _ _ hR1 (by omega) htot).mono ?_
      rintro e w2 ⟨v2, rfl, hr2, hb2⟩
      rw [hsp] at hr2
      have hw2 := hw1.below hb2
      have hB2 := hB1.trans (hb2.mono hB1.size)
      clear hR1 hsp hsl htot
      go_wp2_with fail
      refine (same01_any _ _ (keeps ifs.data.toList l) _ hr2 hw2 (by omega)).mono ?_
      rintro e w3 ⟨rfl, hb3⟩
      have hB3 := hB2.trans (hb3.mono hB2.size)
      clear hr2 hw2 hw1 hw hkl
      go_wp2_with (go_at_call 8; refine (awake_any _).mono ?_; rintro e w4 ⟨rfl, hb4⟩)
      go_ret
      exact ⟨rfl, hB3.trans (hb4.mono hB3.size)⟩
end Go.Proofs.Ytfadbbpnhppkpaa
