/- The walk of whelkref16.Whole for up to 100000 written bytes. -/
import Derived.Test.YtfadbbpnhppkpaaW8
import Derived.Deep.DeepCutAuto
import Derived.Deep.RegionHeld3
import Derived.Deep.AppendLies
set_option linter.unusedVariables false
set_option linter.unusedSimpArgs false
namespace Go.Proofs.Ytfadbbpnhppkpaa
open Go.RowKit
attribute [local go_sem ↓] Go.wp_at_zero Go.wp_at_succ
set_option maxRecDepth 100000 in
set_option maxHeartbeats 2000000 in
theorem refwhole_any (v : Value) (l : List (Int × UInt8)) (w : World) (h : Rd w v l.length (bts l)) (hl : l.length ≤ 100000) :
    Calls Try.prog 18 #[v] w fun e w' => ∃ v', e = .returned v' ∧ Rd w' v' (whole l).length (chs (whole l)) ∧ Below w.heap.size w w' := by
  obtain ⟨A, cap, rfl, hcap, hx⟩ := h.open_
  clear h
  obtain ⟨j0, hj, jz0, jz1, jz2⟩ := info_parts Try.info57
  go_enter Try.func18, Try.ntmps18
  go_wp2
  go_loopw [3, 4, 5, 6] (fun o la cu i wr => ∃ k : Nat, k ≤ l.length ∧ i = .int .i64 k ∧ la = .int .i64 (rwrun l k).last ∧ cu = .bool (rwrun l k).cut ∧
    wr.ownsRow w.heap.size 57 2 o (rwrun l k).out.length (chs (rwrun l k).out) ∧ Below w.heap.size w wr) (fun _ _ _ i _ => l.length - (intOf i).toNat)
  case atStart => exact ⟨0, Nat.zero_le _, rfl, rfl, rfl, World.ownsRow_nil _ _ _ _, Below.refl _ _⟩
  case round =>
    obtain ⟨k, hk, rfl, rfl, rfl, hown, hb⟩ := hrel
    by_cases hlt : k < l.length
    · rcases hx with hx | ⟨b, off, rfl, hc⟩
      · exact (bts_ne hlt hx).elim
      · have hbw := hc.lt (bts_pos (by omega))
        have HC := hid hc
        have hcr := (hc.below hb).bt k hlt
        clear hc
        obtain ⟨hc1, hc2⟩ := hcr
        have hsn : rwrun l (k + 1) = rwstep (rwrun l k) k l[k] := by simp [rwrun, List.getElem?_eq_getElem hlt]
        have hol := rwrun_len l k
        have hla := rwrun_last l k
        generalize rwrun l k = st at *
        obtain ⟨kd, c, hkc⟩ : ∃ kd c, l[k] = (kd, c) := ⟨_, _, rfl⟩
        have HKC := hid hkc
        rw [hkc] at hc1 hc2 hsn
        have HS := hid hsn
        clear hsn hkc
        have hsz := hb.size
        obtain ⟨out, la, cu⟩ := st
        dsimp only at hc1 hc2 hown hol hla
        have hi0 : (0 : Int) ≤ (k : Int) := Int.natCast_nonneg _
        have hi1 : (k : Int) < (l.length : Int) := by omega
        by_cases h4 : kd = 4
        · subst h4
          have hstep := hid (show rwstep ⟨out, la, cu⟩ k (4, c) = ⟨out, la, true⟩ by simp [rwstep])
          go_wp2
          go_roundw
          case rel => exact ⟨k + 1, by omega, by go_num, by rw [HS.out, hstep.out], by rw [HS.out, hstep.out], by rw [HS.out, hstep.out]; exact hown, hb⟩
          case measure => simp [intOf]; omega
        · have b4 : (kd == 4) = false := by simpa using h4
          clear h4
          by_cases hr : kd < 0 ∨ 3 < kd
          · have hstep := hid (show rwstep ⟨out, la, cu⟩ k (kd, c) = ⟨out, la, cu⟩ by simp only [rwstep, b4, Bool.or_false]; rw [if_pos (by simpa using hr)])
            rcases hr with hr | hr
            · go_wp2
              go_roundw
              case rel => exact ⟨k + 1, by omega, by go_num, by rw [HS.out, hstep.out], by rw [HS.out, hstep.out], by rw [HS.out, hstep.out]; exact hown, hb⟩
              case measure => simp [intOf]; omega
            · have hr0 : ¬ kd < 0 := by omega
              go_wp2
              go_roundw
              case rel => exact ⟨k + 1, by omega, by go_num, by rw [HS.out, hstep.out], by rw [HS.out, hstep.out], by rw [HS.out, hstep.out]; exact hown, hb⟩
              case measure => simp [intOf]; omega
          · have hr0 : ¬ kd < 0 := by omega
            have hr3 : ¬ 3 < kd := by omega
            clear hr
            cases cu with
            | false =>
              go_upto_if 37 with fail
              go_cut [3] (fun o wx => wx.ownsRow w.heap.size 57 2 o out.length (chs out) ∧ Below w.heap.size w wx)
              case first =>
                go_wp2
                go_meet
                exact ⟨hown, hb⟩
              case rest =>
                have hlo : out.length ≤ 1000000 := by (try simp); omega
                obtain ⟨hob, hbc⟩ := hcut
                obtain ⟨m1, m2⟩ := (HC.out.below hbc).bt k hlt
                rw [HKC.out] at m1 m2
                have hqc := hbc.size
                have ab : u3.ownBlock ≠ some b := fun e => by have := (hob.lt _ e).1; omega
                clear hown hb hc1 hc2
                by_cases hk3 : kd < 3
                · have hstep := hid (show rwstep ⟨out, la, false⟩ k (kd, c) = ⟨out ++ [(c, kd == 1)], k, false⟩ by
                    simp only [rwstep, b4, Bool.or_false]; rw [if_neg (by simp; omega), if_pos hk3]; simp [Bool.false_and])
                  go_wp2_with fail
                  go_region_held3 (fun w' => w'.cell? ⟨b, off + k * 2, none⟩ = some (.int .i64 kd) ∧ w'.cell? ⟨b, off + k * 2 + 1, none⟩ = some (.int .u8 (c.toNat : Int)))
                    (first | go_keep | (go_split_ands; refine ⟨?_, ?_⟩ <;> (rw [hgrow.cell_far _ (by simp; omega) (Ne.symm ab)]; assumption)))
                    (((with_reducible refine at_app ?_); refine step_append_lies _ (by rfl) _ _ _ (by rfl) w.heap.size 57 j0 _ 2 2 Try.underlying38 hj jz0 jz1 jz2 rfl (by omega) u3 out.length (chs out) (by simp [Act.eval, Act.put]) ((hob.alloc _).drew) ⟨wc.heap.size, 0, none⟩ 1 1 [.int .u8 (c.toNat : Int), .bool (kd == 1)] (by simp [Act.eval, Act.put]) (by rfl) (World.news_of_block (cs := #[.int .u8 (c.toNat : Int), .bool (kd == 1)]) (t := 57) (fr := (0, 0)) (heap_alloc_new wc _)) (one_ch _ _) (by omega) (by unfold maxLen; omega) (by omega) (by simp; omega) (wc.heap.size + 1) (by simp) ?_; intro gg cap1 w1 hown1 hgrow hat hlt1))
                  have hbF := ((hbc.alloc hqc (.cells #[.int .u8 (c.toNat : Int), .bool (kd == 1)] 57)).drew).grown hgrow (by simp; omega) (fun j e => (hob.lt j e).1)
                  have hfin : w1.ownsRow w.heap.size 57 2 (.slice (some ⟨gg, 0, none⟩) (out.length + 1) cap1) (out ++ [(c, kd == 1)]).length (chs (out ++ [(c, kd == 1)])) := by
                    rw [chs_append, List.length_append]; exact hown1
                  clear hown1 hgrow hat hlt1 hob m1 m2
                  go_wp2
                  go_roundw
                  case rel => exact ⟨k + 1, by omega, by go_num, by rw [HS.out, hstep.out], by rw [HS.out, hstep.out], by rw [HS.out, hstep.out]; exact hfin, hbF⟩
                  case measure => simp [intOf]; omega
                · have hstep := hid (show rwstep ⟨out, la, false⟩ k (kd, c) = ⟨out, k, false⟩ by
                    simp only [rwstep, b4, Bool.or_false]; rw [if_neg (by simp; omega), if_neg hk3]; simp [Bool.false_and])
                  go_wp2
                  go_roundw
                  case rel => exact ⟨k + 1, by omega, by go_num, by rw [HS.out, hstep.out], by rw [HS.out, hstep.out], by rw [HS.out, hstep.out]; exact hob, hbc⟩
                  case measure => simp [intOf]; omega
            | true =>
              by_cases hlan : 0 ≤ la
              · skip
                go_upto_if 37 with fail
                go_cut [3] (fun o wx => wx.ownsRow w.heap.size 57 2 o (out ++ [((32 : UInt8), false)]).length (chs (out ++ [((32 : UInt8), false)])) ∧ Below w.heap.size w wx)
                case first =>
                  go_wp2_with (at_builtin; refine wpList_append_lies _ rfl (.tmp 38) (.tmp 40) 38 rfl w.heap.size 57 j0 _ 2 2 Try.underlying38 hj jz0 jz1 jz2 rfl (by decide) u3 out.length (chs out) rfl (hown.alloc _) ⟨wr.heap.size, 0, none⟩ 1 1 [.int .u8 32, .bool false] rfl rfl (World.news_of_block (cs := #[.int .u8 32, .bool false]) (t := 57) (fr := (0, 0)) (heap_last _ _ _ (by simp))) (one_ch _ _) (by omega) (by unfold maxLen; omega) (by omega) (by simp; omega) (wr.heap.size + 1) (by simp) ?_)
                  intro g1 cap1 w1 hown1 hgrow1 _ _
                  have hb1 := (hb.alloc hsz (.cells #[.int .u8 32, .bool false] 57)).grown hgrow1 (by simp; omega) (fun g e => (hown.lt g e).1)
                  have hfin : w1.ownsRow w.heap.size 57 2 (.slice (some ⟨g1, 0, none⟩) (out.length + 1) cap1) (out ++ [((32 : UInt8), false)]).length (chs (out ++ [((32 : UInt8), false)])) := by
                    rw [chs_append, List.length_append]; exact hown1
                  clear hown1 hgrow1
                  go_wp2
                  go_meet
                  exact ⟨hfin, hb1⟩
                case rest =>
                  have hlo : (out ++ [((32 : UInt8), false)]).length ≤ 1000000 := by simp; omega
                  obtain ⟨hob, hbc⟩ := hcut
                  obtain ⟨m1, m2⟩ := (HC.out.below hbc).bt k hlt
                  rw [HKC.out] at m1 m2
                  have hqc := hbc.size
                  have ab : u3.ownBlock ≠ some b := fun e => by have := (hob.lt _ e).1; omega
                  clear hown hb hc1 hc2
                  by_cases hk3 : kd < 3
                  · have hstep := hid (show rwstep ⟨out, la, true⟩ k (kd, c) = ⟨(out ++ [((32 : UInt8), false)]) ++ [(c, kd == 1)], k, false⟩ by
                      simp only [rwstep, b4, Bool.or_false]; rw [if_neg (by simp; omega), if_pos hk3]; simp [hlan])
                    go_wp2_with fail
                    go_region_held3 (fun w' => w'.cell? ⟨b, off + k * 2, none⟩ = some (.int .i64 kd) ∧ w'.cell? ⟨b, off + k * 2 + 1, none⟩ = some (.int .u8 (c.toNat : Int)))
                      (first | go_keep | (go_split_ands; refine ⟨?_, ?_⟩ <;> (rw [hgrow.cell_far _ (by simp; omega) (Ne.symm ab)]; assumption)))
                      (((with_reducible refine at_app ?_); refine step_append_lies _ (by rfl) _ _ _ (by rfl) w.heap.size 57 j0 _ 2 2 Try.underlying38 hj jz0 jz1 jz2 rfl (by omega) u3 (out ++ [((32 : UInt8), false)]).length (chs (out ++ [((32 : UInt8), false)])) (by simp [Act.eval, Act.put]) ((hob.alloc _).drew) ⟨wc.heap.size, 0, none⟩ 1 1 [.int .u8 (c.toNat : Int), .bool (kd == 1)] (by simp [Act.eval, Act.put]) (by rfl) (World.news_of_block (cs := #[.int .u8 (c.toNat : Int), .bool (kd == 1)]) (t := 57) (fr := (0, 0)) (heap_alloc_new wc _)) (one_ch _ _) (by omega) (by unfold maxLen; omega) (by omega) (by simp; omega) (wc.heap.size + 1) (by simp) ?_; intro gg cap1 w1 hown1 hgrow hat hlt1))
                    have hbF := ((hbc.alloc hqc (.cells #[.int .u8 (c.toNat : Int), .bool (kd == 1)] 57)).drew).grown hgrow (by simp; omega) (fun j e => (hob.lt j e).1)
                    have hfin : w1.ownsRow w.heap.size 57 2 (.slice (some ⟨gg, 0, none⟩) (out.length + 1 + 1) cap1) ((out ++ [((32 : UInt8), false)]) ++ [(c, kd == 1)]).length (chs ((out ++ [((32 : UInt8), false)]) ++ [(c, kd == 1)])) := by
                      simpa [chs] using hown1
                    clear hown1 hgrow hat hlt1 hob m1 m2
                    go_wp2
                    go_roundw
                    case rel => exact ⟨k + 1, by omega, by go_num, by rw [HS.out, hstep.out], by rw [HS.out, hstep.out], by rw [HS.out, hstep.out]; exact hfin, hbF⟩
                    case measure => simp [intOf]; omega
                  · have hstep := hid (show rwstep ⟨out, la, true⟩ k (kd, c) = ⟨(out ++ [((32 : UInt8), false)]), k, false⟩ by
                      simp only [rwstep, b4, Bool.or_false]; rw [if_neg (by simp; omega), if_neg hk3]; simp [hlan])
                    go_wp2
                    go_roundw
                    case rel => exact ⟨k + 1, by omega, by go_num, by rw [HS.out, hstep.out], by rw [HS.out, hstep.out], by rw [HS.out, hstep.out]; exact hob, hbc⟩
                    case measure => simp [intOf]; omega
              · skip
                have hla0 : ¬ 0 ≤ la := by omega
                have hla1 : decide (0 ≤ la) = false := by simpa using hla0
                go_upto_if 37 with fail
                go_cut [3] (fun o wx => wx.ownsRow w.heap.size 57 2 o out.length (chs out) ∧ Below w.heap.size w wx)
                case first =>
                  go_wp2
                  go_meet
                  exact ⟨hown, hb⟩
                case rest =>
                  have hlo : out.length ≤ 1000000 := by (try simp); omega
                  obtain ⟨hob, hbc⟩ := hcut
                  obtain ⟨m1, m2⟩ := (HC.out.below hbc).bt k hlt
                  rw [HKC.out] at m1 m2
                  have hqc := hbc.size
                  have ab : u3.ownBlock ≠ some b := fun e => by have := (hob.lt _ e).1; omega
                  clear hown hb hc1 hc2
                  by_cases hk3 : kd < 3
                  · have hstep := hid (show rwstep ⟨out, la, true⟩ k (kd, c) = ⟨out ++ [(c, kd == 1)], k, false⟩ by
                      simp only [rwstep, b4, Bool.or_false]; rw [if_neg (by simp; omega), if_pos hk3]; simp [hla0])
                    go_wp2_with fail
                    go_region_held3 (fun w' => w'.cell? ⟨b, off + k * 2, none⟩ = some (.int .i64 kd) ∧ w'.cell? ⟨b, off + k * 2 + 1, none⟩ = some (.int .u8 (c.toNat : Int)))
                      (first | go_keep | (go_split_ands; refine ⟨?_, ?_⟩ <;> (rw [hgrow.cell_far _ (by simp; omega) (Ne.symm ab)]; assumption)))
                      (((with_reducible refine at_app ?_); refine step_append_lies _ (by rfl) _ _ _ (by rfl) w.heap.size 57 j0 _ 2 2 Try.underlying38 hj jz0 jz1 jz2 rfl (by omega) u3 out.length (chs out) (by simp [Act.eval, Act.put]) ((hob.alloc _).drew) ⟨wc.heap.size, 0, none⟩ 1 1 [.int .u8 (c.toNat : Int), .bool (kd == 1)] (by simp [Act.eval, Act.put]) (by rfl) (World.news_of_block (cs := #[.int .u8 (c.toNat : Int), .bool (kd == 1)]) (t := 57) (fr := (0, 0)) (heap_alloc_new wc _)) (one_ch _ _) (by omega) (by unfold maxLen; omega) (by omega) (by simp; omega) (wc.heap.size + 1) (by simp) ?_; intro gg cap1 w1 hown1 hgrow hat hlt1))
                    have hbF := ((hbc.alloc hqc (.cells #[.int .u8 (c.toNat : Int), .bool (kd == 1)] 57)).drew).grown hgrow (by simp; omega) (fun j e => (hob.lt j e).1)
                    have hfin : w1.ownsRow w.heap.size 57 2 (.slice (some ⟨gg, 0, none⟩) (out.length + 1) cap1) (out ++ [(c, kd == 1)]).length (chs (out ++ [(c, kd == 1)])) := by
                      rw [chs_append, List.length_append]; exact hown1
                    clear hown1 hgrow hat hlt1 hob m1 m2
                    go_wp2
                    go_roundw
                    case rel => exact ⟨k + 1, by omega, by go_num, by rw [HS.out, hstep.out], by rw [HS.out, hstep.out], by rw [HS.out, hstep.out]; exact hfin, hbF⟩
                    case measure => simp [intOf]; omega
                  · have hstep := hid (show rwstep ⟨out, la, true⟩ k (kd, c) = ⟨out, k, false⟩ by
                      simp only [rwstep, b4, Bool.or_false]; rw [if_neg (by simp; omega), if_neg hk3]; simp [hla0])
                    go_wp2
                    go_roundw
                    case rel => exact ⟨k + 1, by omega, by go_num, by rw [HS.out, hstep.out], by rw [HS.out, hstep.out], by rw [HS.out, hstep.out]; exact hob, hbc⟩
                    case measure => simp [intOf]; omega
    · obtain rfl : k = l.length := by omega
      have he := (rwrun_eq l l.length (Nat.le_refl _)).1
      rw [List.take_length] at he
      have hr := Rd.of_own hown
      rw [he] at hr
      clear hown he
      go_wp2
      go_ret
      exact ⟨_, rfl, hr, hb⟩
end Go.Proofs.Ytfadbbpnhppkpaa
