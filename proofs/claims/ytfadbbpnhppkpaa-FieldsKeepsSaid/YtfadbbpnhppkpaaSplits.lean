/- The walk of FieldsSplits: it returns true at every input. No condition but that lengths fit an int. -/
import Derived.Test.YtfadbbpnhppkpaaW11
import Derived.Test.YtfadbbpnhppkpaaCuts
import Derived.Test.YtfadbbpnhppkpaaW5
import Derived.BigQuiet
set_option linter.unusedVariables false
set_option linter.unusedSimpArgs false
namespace Go.Proofs.Ytfadbbpnhppkpaa
open Go.RowKit
attribute [local go_sem ↓] Go.wp_at_zero Go.wp_at_succ
set_option maxRecDepth 100000 in
set_option maxHeartbeats 2000000 in
theorem splits_any (v : Value) (l : List (Int × UInt8)) (ifs s : ByteArray) (w : World) (h : Rd w v l.length (bts l)) (hl9 : l.length ≤ 9223372036854775807) (hi9 : ifs.size ≤ 9223372036854775807) (hs9 : s.size ≤ 9223372036854775807) :
    Calls Try.prog 5 #[v, .string ifs, .string s] w fun e w' => e = .returned (.bool true) ∧ Below w.heap.size w w' := by
  obtain ⟨A, cap, rfl, hcap, _⟩ := h.open_
  by_cases h1 : 500 < l.length
  · go_enter Try.func5, Try.ntmps5
    go_wp2_with (go_at_call 8; refine (awake_any _).mono ?_; rintro e w1 ⟨rfl, hb1⟩)
    go_ret
    exact ⟨rfl, hb1⟩
  by_cases h2 : 300 < ifs.size
  · go_enter Try.func5, Try.ntmps5
    go_wp2_with (go_at_call 8; refine (awake_any _).mono ?_; rintro e w1 ⟨rfl, hb1⟩)
    go_ret
    exact ⟨rfl, hb1⟩
  by_cases h3 : 300 < s.size
  · go_enter Try.func5, Try.ntmps5
    go_wp2_with (go_at_call 8; refine (awake_any _).mono ?_; rintro e w1 ⟨rfl, hb1⟩)
    go_ret
    exact ⟨rfl, hb1⟩
  have d1 : decide ((500 : Int) < (l.length : Int)) = false := by simp; omega
  have d2 : decide ((300 : Int) < (ifs.size : Int)) = false := by simp; omega
  have d3 : decide ((300 : Int) < (s.size : Int)) = false := by simp; omega
  go_enter Try.func5, Try.ntmps5
  go_wp2_with fail
  refine (split_any _ l ifs _ h (by omega)).mono ?_
  rintro e w1 ⟨N, v1, vs1, rfl, hrows, hb1⟩
  have hR1 := RdR.of_rows hrows
  clear hrows
  go_wp2_with fail
  refine (plain16_any _ l _ (h.below hb1) (by omega)).mono ?_
  rintro e w2 ⟨v2, rfl, hr2, hb2⟩
  have hB2 := hb1.trans (hb2.mono hb1.size)
  go_wp2_with fail
  refine (refsplit_any _ l ifs _ hr2 (by omega) (by omega)).mono ?_
  rintro e w3 ⟨v3, rfl, hR3, hb3⟩
  have hB3 := hB2.trans (hb3.mono hB2.size)
  have hR1' := hR1.below (hb2.trans (hb3.mono hb2.size))
  have hE := split_each ifs.data.toList l
  have hL := split_len ifs.data.toList l
  generalize split ifs.data.toList l = ll at *
  clear hR1 hr2 hb1 hb2 hb3 hB2
  obtain ⟨us, hul, hru, hus⟩ := hR1'
  obtain ⟨xs, hxl, hrx, hxs⟩ := hR3
  obtain ⟨A1, cap1, rfl, hcap1, hx1⟩ := hru.open_
  obtain ⟨A3, cap3, rfl, hcap3, hx3⟩ := hrx.open_
  have HUL := hid hul
  have HXL := hid hxl
  rw [hul] at hcap1 hru ⊢
  rw [hxl] at hcap3 hrx ⊢
  clear hul hxl hru hrx
  have hlen : ll.length ≤ 500 := by omega
  have hE2 : ∀ m ∈ ll, m.length ≤ 100000 := fun m hm => by have := hE m hm; omega
  clear hE
  have hq3 := hB3.size
  go_wp2_with fail
  go_loopw [9] (fun i wr => ∃ m : Nat, m ≤ ll.length ∧ i = .int .i64 m ∧ Below w3.heap.size w3 wr) (fun i _ => ll.length - (intOf i).toNat)
  case atStart => exact ⟨0, Nat.zero_le _, rfl, Below.refl _ _⟩
  case round =>
    obtain ⟨m, hm, rfl, hbr⟩ := hrel
    by_cases hmt : m < ll.length
    · have hmu : m < us.length := by rw [HUL.out]; exact hmt
      have hmx : m < xs.length := by rw [HXL.out]; exact hmt
      rcases hx1 with hx1 | ⟨b2, off2, rfl, hc2⟩
      · rw [hx1] at hmu; simp at hmu
      · rcases hx3 with hx3 | ⟨b3, off3, rfl, hc3⟩
        · rw [hx3] at hmx; simp at hmx
        · have ha := (hc2.below hbr) m us[m] (List.getElem?_eq_getElem hmu)
          have hw := (hc3.below hbr) m xs[m] (List.getElem?_eq_getElem hmx)
          have hra := (hus m us[m] ll[m] (List.getElem?_eq_getElem hmu) (List.getElem?_eq_getElem hmt)).below hbr
          have hrb := (hxs m xs[m] ll[m] (List.getElem?_eq_getElem hmx) (List.getElem?_eq_getElem hmt)).below hbr
          have hln := hE2 ll[m] (List.getElem_mem hmt)
          generalize us[m] = um at *
          generalize xs[m] = xm at *
          generalize ll[m] = lm at *
          obtain ⟨au, cu, rfl⟩ : ∃ a c, um = .slice a lm.length c := by obtain ⟨a, c, h, _⟩ := hra; exact ⟨a, c, h⟩
          obtain ⟨ax, cx, rfl⟩ : ∃ a c, xm = .slice a lm.length c := by obtain ⟨a, c, h, _⟩ := hrb; exact ⟨a, c, h⟩
          clear hus hxs hc2 hc3 hE2
          have hi0 : (0 : Int) ≤ (m : Int) := Int.natCast_nonneg _
          have hi1 : (m : Int) < (ll.length : Int) := by omega
          have hqr := hbr.size
          go_wp2_with fail
          have hraD : Rd wr.drew (.slice au lm.length cu) lm.length (chs lm) := hra
          have hrbD : Rd wr.drew (.slice ax lm.length cx) lm.length (chs lm) := hrb
          clear hra hrb
          go_region_held3 (fun w' => w'.cell? ⟨b2, off2 + m, none⟩ = some (.slice au lm.length cu) ∧ w'.cell? ⟨b3, off3 + m, none⟩ = some (.slice ax lm.length cx))
            (first | go_keep | (go_split_ands; refine ⟨?_, ?_⟩ <;> (refine bel_cell hby ?_; assumption)) | (go_split_ands; refine ⟨?_, ?_⟩ <;> (refine bel_cell hbz ?_; assumption)))
            (first | (go_at_call 16; refine (text_any _ lm _ hraD (by omega)).mono ?_; rintro e wy ⟨vt, rfl, hrt, hby⟩) | (go_at_call 15; refine (same_any _ _ lm _ hrt (hrbD.below hby) (by omega)).mono ?_; rintro e wz ⟨rfl, hbz⟩))
          have hbF := hbr.drew.trans ((hby.trans (hbz.mono hby.size)).mono (by simp; have := hbr.size; omega))
          clear hby hbz hraD hrbD hrt
          go_wp2
          go_roundw
          case rel => exact ⟨m + 1, by omega, by go_num, hbF⟩
          case measure => simp [intOf]; omega
    · have hBr := hB3.trans (hbr.mono hq3)
      clear hx1 hx3 hus hxs hE2
      go_wp2_with fail
      refine (bits_any s (ifs.size : Int) _ (by omega)).mono ?_; rintro e w4 ⟨v4, rfl, hr4, hb4⟩
      have hB4 := hBr.trans (hb4.mono hBr.size)
      clear hBr hb4 hbr hB3 hq3
      have hbl : (bts (s.data.toList.map fun c => ((ifs.size : Int), c))).length = s.size * 2 := by rw [bts_len]; simp
      obtain ⟨A4, cap4, rfl, hcap4, hx4⟩ := hr4.open_
      clear hr4
      have hq4 := hB4.size
      go_wp2_with fail
      go_loopw [11] (fun i wr => ∃ m : Nat, m ≤ s.size ∧ i = .int .i64 m ∧ Below w4.heap.size w4 wr) (fun i _ => s.size - (intOf i).toNat)
      case atStart => exact ⟨0, Nat.zero_le _, rfl, Below.refl _ _⟩
      case round =>
        obtain ⟨m, hm, rfl, hbr⟩ := hrel
        by_cases hmt : m < s.size
        · rcases hx4 with hx4 | ⟨b4, off4, rfl, hc4⟩
          · rw [hx4] at hbl; simp at hbl; omega
          · have hml : m < s.data.toList.length := by simpa using hmt
            obtain ⟨c1, c2⟩ := (hc4.below hbr).bt m (by simpa using hml)
            simp only [List.getElem_map] at c1 c2
            rw [show s.data.toList[m] = s[m] by rw [Array.getElem_toList]; rfl] at c2
            clear hc4
            have e1 : (!((s[m].toNat : Int) == (s[m].toNat : Int))) = false := by simp
            have e2 : (!((ifs.size : Int) == (ifs.size : Int))) = false := by simp
            have hi0 : (0 : Int) ≤ (m : Int) := Int.natCast_nonneg _
            have hi1 : (m : Int) < (s.size : Int) := by omega
            go_wp2_with fail
            go_quiet (fail)
            go_wp2
            go_roundw
            case rel => exact ⟨m + 1, by omega, by go_num, by first | exact below_drewN hbr _ | exact hbr⟩
            case measure => simp [intOf]; omega
        · clear hx4
          have hB5 := hB4.trans (hbr.mono hq4)
          have hwl : (whole l).length ≤ 2 * l.length := by have := wrun_len l ⟨[], false, false⟩; simpa [whole] using this
          go_wp2_with fail
          refine (whole_any _ l _ (h.below hB5) (by omega)).mono ?_; rintro e w5 ⟨v5, rfl, hr5, hb5⟩
          have hB6 := hB5.trans (hb5.mono hB5.size)
          go_wp2_with fail
          refine (text_any _ (whole l) _ hr5 (by omega)).mono ?_; rintro e w6 ⟨v6, rfl, hr6, hb6⟩
          have hB7 := hB6.trans (hb6.mono hB6.size)
          go_wp2_with fail
          refine (plain16_any _ l _ (h.below hB7) (by omega)).mono ?_; rintro e w7 ⟨v7, rfl, hr7, hb7⟩
          have hB8 := hB7.trans (hb7.mono hB7.size)
          go_wp2_with fail
          refine (refwhole_any _ l _ hr7 (by omega)).mono ?_; rintro e w8 ⟨v8, rfl, hr8, hb8⟩
          have hB9 := hB8.trans (hb8.mono hB8.size)
          go_wp2_with fail
          refine (same_any _ _ (whole l) _ ((hr6.below hb7).below hb8) hr8 (by omega)).mono ?_; rintro e w9 ⟨rfl, hb9⟩
          have hB10 := hB9.trans (hb9.mono hB9.size)
          go_wp2_with (go_at_call 8; refine (awake_any _).mono ?_; rintro e w10 ⟨rfl, hb10⟩)
          go_ret
          exact ⟨rfl, hB10.trans (hb10.mono hB10.size)⟩
end Go.Proofs.Ytfadbbpnhppkpaa
