/- The walk of fields.Split: it returns the fields of the plain function, for up to 100000 bits. -/
import Derived.Test.YtfadbbpnhppkpaaW2
import Derived.Deep.RegionLaw
import Derived.Outline
set_option linter.unusedVariables false
set_option linter.unusedSimpArgs false
namespace Go.Proofs.Ytfadbbpnhppkpaa
open Go.RowKit
attribute [local go_sem ↓] Go.wp_at_zero Go.wp_at_succ
theorem index_yes (s : ByteArray) (c : UInt8) (w : World) (h : hasB s.data.toList c = true) : Calls Try.prog 24 #[.string s, .int .u8 (c.toNat : Int)] w fun e w' => (∃ n : Nat, e = .returned (.int .i64 (n : Int))) ∧ w = w' := by
  refine (Try.strings_IndexByte s (c.toNat : Int) w).mono fun e w' ⟨he, hw⟩ => ?_
  rcases hasB_index s.data.toList c with ⟨_, n, hn⟩ | ⟨h', _⟩
  · refine ⟨⟨n, ?_⟩, hw.symm⟩
    rw [he, show ((c.toNat : Int)).toNat.toUInt8 = c by simp, hn]
  · rw [h] at h'; cases h'
theorem index_no (s : ByteArray) (c : UInt8) (w : World) (h : hasB s.data.toList c = false) : Calls Try.prog 24 #[.string s, .int .u8 (c.toNat : Int)] w fun e w' => e = .returned (.int .i64 (-1)) ∧ w = w' := by
  refine (Try.strings_IndexByte s (c.toNat : Int) w).mono fun e w' ⟨he, hw⟩ => ?_
  rcases hasB_index s.data.toList c with ⟨h', _⟩ | ⟨_, hn⟩
  · rw [h] at h'; cases h'
  · exact ⟨by rw [he, show ((c.toNat : Int)).toNat.toUInt8 = c by simp, hn], hw.symm⟩

theorem heap4_3 (w : World) (a b c d : Obj) : ((((w.alloc a).alloc b).alloc c).alloc d).heap[w.heap.size + 3]? = some d := by
  have := heap_alloc_new (((w.alloc a).alloc b).alloc c) d; simpa using this
theorem heap4_2 (w : World) (a b c d : Obj) : ((((w.alloc a).alloc b).alloc c).alloc d).heap[w.heap.size + 2]? = some c := by
  rw [Below.heap_alloc _ _ _ (by simp)]; have := heap_alloc_new ((w.alloc a).alloc b) c; simpa using this
theorem heap4_1 (w : World) (a b c d : Obj) : ((((w.alloc a).alloc b).alloc c).alloc d).heap[w.heap.size + 1]? = some b := by
  rw [Below.heap_alloc _ _ _ (by simp), Below.heap_alloc _ _ _ (by simp)]; have := heap_alloc_new (w.alloc a) b; simpa using this
theorem heap4_0 (w : World) (a b c d : Obj) : ((((w.alloc a).alloc b).alloc c).alloc d).heap[w.heap.size]? = some a := by
  rw [Below.heap_alloc _ _ _ (by simp; omega), Below.heap_alloc _ _ _ (by simp; omega), Below.heap_alloc _ _ _ (by simp)]; exact heap_alloc_new w a

theorem heap2_1 (w : World) (a b : Obj) : ((w.alloc a).alloc b).heap[w.heap.size + 1]? = some b := by
  have := heap_alloc_new (w.alloc a) b; simpa using this
theorem heap3_2 (w : World) (a b c : Obj) : (((w.alloc a).alloc b).alloc c).heap[w.heap.size + 1 + 1]? = some c := by
  have := heap_alloc_new ((w.alloc a).alloc b) c; simpa using this

set_option maxRecDepth 100000 in
set_option maxHeartbeats 1600000 in
theorem split_any (v : Value) (l : List (Int × UInt8)) (ifs : ByteArray) (w : World) (h : Rd w v l.length (bts l)) (hl : l.length ≤ 100000) :
    Calls Try.prog 11 #[v, .string ifs] w fun e w' => ∃ N v' vs, e = .returned v' ∧ SRows w.heap.size N v' vs (.slice none 0 0) (split ifs.data.toList l) none w' ∧ Below w.heap.size w w' := by
  obtain ⟨A, cap, rfl, hcap, hx⟩ := h.open_
  clear h
  obtain ⟨i0, hi, hz0, hz1, hz2⟩ := info_parts Try.info40
  obtain ⟨j0, hj, jz0, jz1, jz2⟩ := info_parts Try.info49
  go_enter Try.func11, Try.ntmps11
  go_wp2
  go_loopw [18] (fun i wr => ∃ k : Nat, k ≤ l.length ∧ i = .int .i64 k ∧ SInv w.heap.size (run ifs.data.toList ⟨[], none, false⟩ (l.take k)) wr ∧ Below w.heap.size w wr) (fun i _ => l.length - (intOf i).toNat)
  case atStart =>
    refine ⟨0, Nat.zero_le _, rfl, ⟨w.heap.size + 4, .slice none 0 0, [], .slice none 0 0, ⟨?_, ?_, ?_, ?_⟩, ⟨Nat.le_refl _, by simp, World.ownsRow_nil _ _ _ _, rfl, fun i v l a => by simp at a, fun l e => by cases e⟩⟩, ((((Below.refl _ _).alloc (Nat.le_refl _) _).alloc (by simp) _).alloc (by simp; omega) _).alloc (by simp; omega) _⟩
    · exact heap4_0 w _ _ _ _
    · exact heap4_1 w _ _ _ _
    · exact heap4_2 w _ _ _ _
    · exact heap4_3 w _ _ _ _
  case round =>
    obtain ⟨k, hk, rfl, hinv, hb⟩ := hrel
    by_cases hlt : k < l.length
    · rcases hx with hx | ⟨b, off, rfl, hc⟩
      · exact (bts_ne hlt hx).elim
      · have hbw := hc.lt (bts_pos (by omega))
        obtain ⟨hc1, hc2⟩ := (hc.below hb).bt k hlt
        clear hc
        have hsn := run_snoc ifs.data.toList ⟨[], none, false⟩ l k hlt
        have hol := run_len ifs.data.toList (l.take k) ⟨[], none, false⟩
        have hon := run_now ifs.data.toList (l.take k) ⟨[], none, false⟩
        generalize run ifs.data.toList ⟨[], none, false⟩ (l.take k) = st at *
        have hmin : (l.take k).length ≤ k := List.length_take_le _ _
        have hnil : (none : Option (List (UInt8 × Bool))).toList.length = 0 := rfl
        simp only [List.length_nil] at hol hon
        have hA : st.out.length ≤ 1000000 := by omega
        have hA2 : (st.now.getD []).length ≤ 1000000 := by simp only [Option.getD_none, List.length_nil] at hon; omega
        clear hol hon hmin hnil
        obtain ⟨kd, c, hkc⟩ : ∃ kd c, l[k] = (kd, c) := ⟨_, _, rfl⟩
        rw [hkc] at hc1 hc2 hsn
        have HS := hid hsn
        clear hsn hkc
        have hsz := hb.size
        obtain ⟨N, vo, vs, vn, hcaps, hrows⟩ := hinv
        have hcz := lt_of_block hcaps.c3
        have hcapsA := hcaps.alloc (.cells #[.int .i64 kd, .int .u8 (c.toNat : Int)] 42)
        have hrowsA := hrows.alloc (.cells #[.int .i64 kd, .int .u8 (c.toNat : Int)] 42)
        have hbA := hb.alloc hsz (.cells #[.int .i64 kd, .int .u8 (c.toNat : Int)] 42)
        -- the last cell of the round's own variable and what the world of the call bears
        by_cases hby : byteB kd = true ∧ softB ifs.data.toList (kd, c) = false
        · obtain ⟨hby, hsf⟩ := hby
          have hstep := hid (step_byte ifs.data.toList st kd c hby hsf)
          have hcase : ((kd == 2) = true ∧ hasB ifs.data.toList c = false) ∨ (kd == 2) = false := by
            cases h : (kd == 2)
            · exact .inr rfl
            · exact .inl ⟨rfl, by simpa [softB, h] using hsf⟩
          simp only [byteB, Bool.and_eq_true, decide_eq_true_eq] at hby
          obtain ⟨hb0, hb2⟩ := hby
          clear hsf
          rcases hcase with ⟨hk2, hn⟩ | hk2
          all_goals
            go_wp2_with (go_at_call 24; refine (index_no ifs c _ (by assumption)).mono ?_; rintro e wx ⟨rfl, rfl⟩)
            refine (byted_any kd _ _).mono ?_; rintro e wx ⟨rfl, rfl⟩
            have hbt : (decide (0 ≤ kd) && decide (kd ≤ 2)) = true := by simp [hb0, hb2]
            rw [hbt]
            go_wp2_with fail
            refine (begin_any w.heap.size st _ ⟨N, vo, vs, vn, hcapsA.alloc _, hrowsA.alloc _⟩).mono ?_; rintro e wx ⟨rfl, hinv2, hbel2, hsz2, hfr2⟩
            have ht12 : wx.heap[wr.heap.size]? = some (.cells #[.int .i64 kd, .int .u8 (c.toNat : Int)] 42 (0, 0)) := by
              rw [hfr2 _ (by omega) (by simp; omega), Below.heap_alloc _ _ _ (by simp)]; exact heap_alloc_new wr _
            obtain ⟨N2, vo2, vs2, vn2, hcaps2, hrows2⟩ := hinv2
            have cn := cell_of_one hcaps2.c1
            have fn := free_of_one hcaps2.c1
            have t0 : wx.cell? ⟨wr.heap.size, 0, none⟩ = some (.int .i64 kd) := cell_of_row _ _ 0 _ _ _ ht12
            have t1 : wx.cell? ⟨wr.heap.size, 1, none⟩ = some (.int .u8 (c.toNat : Int)) := cell_of_row _ _ 1 _ _ _ ht12
            clear hfr2
            have hno := hrows2.rn _ rfl
            obtain ⟨a1, n1, k1, rfl⟩ := own_slice hno
            have hlo2 := hrows2.lo
            have hhi2 := hrows2.hi
            have hne1 : (Value.slice a1 n1 k1).ownBlock ≠ some (w.heap.size + 1) := fun e => by have := (hno.lt _ e).1; omega
            have hbz2 := hbA.alloc (by simp; omega) (.cells #[.int .i64 kd, .int .u8 (c.toNat : Int)] 42)
            clear hcaps hrows hcapsA hrowsA hb hbA hc1 hc2 ht12 hbt
            have q1 := al (o := .cells #[.int .i64 kd, .int .u8 (c.toNat : Int)] 42) cn
            have q2 := al (o := .cells #[.int .u8 (c.toNat : Int), .bool (kd == 1)] 49) q1
            have q3 := al (o := .cells #[.int .u8 (c.toNat : Int), .bool (kd == 1)] 49) q2
            go_wp2_with fail
            go_region_law
              (first | (go_simp; go_at_call 26; refine (char_any _ _ _).mono ?_; rintro e w' ⟨rfl, rfl⟩) | ((with_reducible refine at_app ?_); refine step_append_lies _ (by rfl) _ _ _ (by rfl) N2 49 j0 _ 2 2 Try.underlying40 hj jz0 jz1 jz2 rfl (by omega) (.slice a1 n1 k1) (st.now.getD []).length (chs (st.now.getD [])) (by simp [Act.eval, Act.put]) ((((hno.alloc _).alloc _).alloc _).drew) ⟨wx.heap.size + 1 + 1, 0, none⟩ 1 1 [.int .u8 (c.toNat : Int), .bool (kd == 1)] (by simp [Act.eval, Act.put]) (by rfl) (World.news_of_block (cs := #[.int .u8 (c.toNat : Int), .bool (kd == 1)]) (t := 49) (fr := (0, 0)) (heap3_2 wx _ _ _)) (by simp [Value.oneCell']) (by omega) (by unfold maxLen; omega) (by omega) (by simp; omega) (wx.heap.size + 1 + 1 + 1) (by simp) ?_; intro gg cap w1 hown1 hgrow hat hlt; have c1c := hgrow.cell (dr (al (al (al cn)))) (Ne.symm hne1); have c1f := grf hgrow (dr (al (al (al cn)))) (drf (alf (alf (alf fn)))) (Ne.symm hne1)))
            all_goals
              obtain ⟨hfin, hbf⟩ := put_inv (c := (c, kd == 1)) hcaps2 hrows2 hown1 hgrow
              have hbF := (hbz2.trans hbel2).trans hbf
              clear hown1 hgrow hat hlt hcaps2 hrows2 hno q1 q2 q3 cn fn t0 t1 c1c c1f
              go_wp2
              go_roundw
              case rel => exact ⟨k + 1, by omega, by go_num, by rw [HS.out, hstep.out]; exact hfin, hbF⟩
              case measure => simp [intOf]; omega
        · by_cases h3 : kd = 3
          · subst h3
            have hstep := hid (step_mark ifs.data.toList st c)
            clear hby
            go_wp2_with fail
            refine (byted_any 3 _ _).mono ?_; rintro e wx ⟨rfl, rfl⟩
            go_wp2_with fail
            refine (begin_any w.heap.size st _ ⟨N, vo, vs, vn, hcapsA.alloc _, hrowsA.alloc _⟩).mono ?_; rintro e wx ⟨rfl, hinv2, hbel2, hsz2, hfr2⟩
            have hbF := (hbA.alloc (by simp; omega) (.cells #[.int .i64 3, .int .u8 (c.toNat : Int)] 42)).trans hbel2
            clear hcaps hrows hcapsA hrowsA hb hbA hc1 hc2 hfr2
            go_wp2
            go_roundw
            case rel => exact ⟨k + 1, by omega, by go_num, by rw [HS.out, hstep.out]; exact hinv2, hbF⟩
            case measure => simp [intOf]; omega
          · by_cases h4 : kd = 4
            · subst h4
              have hstep := hid (step_cut ifs.data.toList st c)
              clear hby h3
              go_wp2_with fail
              refine (byted_any 4 _ _).mono ?_; rintro e wx ⟨rfl, rfl⟩
              go_wp2_with fail
              refine (end_any w.heap.size st _ ⟨N, vo, vs, vn, hcapsA.alloc _, hrowsA.alloc _⟩ hA).mono ?_; rintro e wx ⟨rfl, hinv2, hbel2⟩
              obtain ⟨N2, vo2, vs2, vn2, hcaps2, hrows2⟩ := hinv2
              have cn := cell_of_one hcaps2.c3
              have fn := free_of_one hcaps2.c3
              have hbF := ((hbA.alloc (by simp; omega) (.cells #[.int .i64 4, .int .u8 (c.toNat : Int)] 42)).trans hbel2).setCell (p := ⟨w.heap.size + 3, 0, none⟩) (by simp) (.bool false)
              have hfin : SInv w.heap.size ⟨st.out ++ st.now.toList, none, false⟩ (wx.setCell ⟨w.heap.size + 3, 0, none⟩ (.bool false)) := ⟨N2, vo2, vs2, vn2, hcaps2.set3 false, hrows2.setCell (by simp) _⟩
              clear hcaps hrows hcapsA hrowsA hb hbA hc1 hc2 hcaps2 hrows2
              go_wp2
              go_roundw
              case rel => exact ⟨k + 1, by omega, by go_num, by rw [HS.out, hstep.out]; exact hfin, hbF⟩
              case measure => simp [intOf]; omega
            · by_cases h2 : kd = 2 ∧ hasB ifs.data.toList c = true
              · obtain ⟨rfl, hn⟩ := h2
                clear hby h3 h4
                cases hbl : blankB c with
                | true =>
                  have hstep := hid (step_blank ifs.data.toList st c hn hbl)
                  go_wp2_with fail
                  refine (index_yes ifs c _ hn).mono ?_; rintro e wx ⟨⟨n, rfl⟩, rfl⟩
                  go_wp2_with fail
                  refine (byted_any 2 _ _).mono ?_; rintro e wx ⟨rfl, rfl⟩
                  go_wp2_with fail
                  refine (index_yes ⟨#[32, 9, 10]⟩ c _ hbl).mono ?_; rintro e wx ⟨⟨n', rfl⟩, rfl⟩
                  go_wp2_with fail
                  refine (end_any w.heap.size st _ ⟨N, vo, vs, vn, hcapsA.alloc _, hrowsA.alloc _⟩ hA).mono ?_; rintro e wx ⟨rfl, hinv2, hbel2⟩
                  obtain ⟨N2, vo2, vs2, vn2, hcaps2, hrows2⟩ := hinv2
                  have cn := cell_of_one hcaps2.c3
                  have fn := free_of_one hcaps2.c3
                  have hbF := ((hbA.alloc (by simp; omega) (.cells #[.int .i64 2, .int .u8 (c.toNat : Int)] 42)).trans hbel2).setCell (p := ⟨w.heap.size + 3, 0, none⟩) (by simp) (.bool (st.now.isSome || st.af))
                  have hfin : SInv w.heap.size ⟨st.out ++ st.now.toList, none, st.now.isSome || st.af⟩ (wx.setCell ⟨w.heap.size + 3, 0, none⟩ (.bool (st.now.isSome || st.af))) := ⟨N2, vo2, vs2, vn2, hcaps2.set3 _, hrows2.setCell (by simp) _⟩
                  clear hcaps hrows hcapsA hrowsA hb hbA hc1 hc2 hcaps2 hrows2 hn hbl
                  generalize st.now.isSome = bg at *
                  cases bg
                  all_goals
                    go_wp2
                    go_roundw
                    case rel => exact ⟨k + 1, by omega, by go_num, by rw [HS.out, hstep.out]; simpa using hfin, by simpa using hbF⟩
                    case measure => simp [intOf]; omega
                | false =>
                  have hstep := hid (step_edge ifs.data.toList st c hn hbl)
                  go_wp2_with fail
                  refine (index_yes ifs c _ hn).mono ?_; rintro e wx ⟨⟨n, rfl⟩, rfl⟩
                  go_wp2_with fail
                  refine (byted_any 2 _ _).mono ?_; rintro e wx ⟨rfl, rfl⟩
                  go_wp2_with fail
                  refine (index_no ⟨#[32, 9, 10]⟩ c _ hbl).mono ?_; rintro e wx ⟨rfl, rfl⟩
                  go_wp2_with fail
                  refine (end_any w.heap.size st _ ⟨N, vo, vs, vn, hcapsA.alloc _, hrowsA.alloc _⟩ hA).mono ?_; rintro e wx ⟨rfl, hinv2, hbel2⟩
                  obtain ⟨N2, vo2, vs2, vn2, hcaps2, hrows2⟩ := hinv2
                  have hbM := (hbA.alloc (by simp; omega) (.cells #[.int .i64 2, .int .u8 (c.toNat : Int)] 42)).trans hbel2
                  clear hcaps hrows hcapsA hrowsA hb hbA hc1 hc2 hn hbl
                  obtain ⟨out, now, af⟩ := st
                  dsimp only at hcaps2 hrows2
                  have cn := cell_of_one hcaps2.c3
                  have fn := free_of_one hcaps2.c3
                  have hbF := hbM.setCell (p := ⟨w.heap.size + 3, 0, none⟩) (by simp) (.bool false)
                  have hfin : SInv w.heap.size ⟨out ++ now.toList, none, false⟩ (wx.setCell ⟨w.heap.size + 3, 0, none⟩ (.bool false)) := ⟨N2, vo2, vs2, vn2, hcaps2.set3 false, hrows2.setCell (by simp) _⟩
                  cases now with
                  | some m =>
                    clear hcaps2 hrows2
                    go_wp2
                    go_roundw
                    case rel => exact ⟨k + 1, by omega, by go_num, by rw [HS.out, hstep.out]; exact hfin, hbF⟩
                    case measure => simp [intOf]; omega
                  | none =>
                    cases af with
                    | true =>
                      clear hcaps2 hrows2
                      go_wp2
                      go_roundw
                      case rel => exact ⟨k + 1, by omega, by go_num, by rw [HS.out, hstep.out]; exact hfin, hbF⟩
                      case measure => simp [intOf]; omega
                    | false =>
                      clear hfin hbF
                      have hrows3 : SRows w.heap.size N2 vo2 vs2 vn2 out none wx := by simpa using hrows2
                      have hvl : vs2.length ≤ 1000000 := by rw [hrows3.ln]; exact hA
                      have hlo := hrows3.lo
                      have hhi := hrows3.hi
                      have c0 := cell_of_one hcaps2.c0
                      have f0 := free_of_one hcaps2.c0
                      clear hrows2
                      go_wp2_with (at_builtin; refine wpList_append_lies _ rfl _ _ 28 rfl (w.heap.size + 4) 40 i0 _ 1 24 Try.underlying28 hi hz0 hz1 hz2 rfl (by decide) vo2 vs2.length vs2 rfl ((hrows3.ro.alloc _).alloc _) ⟨wx.heap.size + 1, 0, none⟩ 1 1 [.slice (some ⟨wx.heap.size, 0, none⟩) 0 0] rfl rfl (World.news_of_block (cs := #[.slice (some ⟨wx.heap.size, 0, none⟩) 0 0]) (t := 40) (fr := (0, 0)) (heap2_1 wx _ _)) (own_slice1 _ _ _ rfl) (by omega) (by unfold maxLen; omega) (by omega) (by simp; omega) (wx.heap.size + 1 + 1) (by simp) ?_)
                      intro g cap' w1 hown hgrow hat hlt'
                      obtain ⟨⟨N3, hc3, hr3⟩, hbe⟩ := edge_inv hcaps2 hrows3 hown hgrow
                      have hrow : ∀ k, vo2.ownBlock = some k → w.heap.size + 4 ≤ k := fun k e => (hrows3.ro.lt k e).1
                      have hcg := ((hcaps2.alloc (.cells #[] 49)).alloc (.cells #[.slice (some ⟨wx.heap.size, 0, none⟩) 0 0] 40)).grown hgrow hrow
                      have d0 := cell_of_one hcg.c0
                      have e0 := free_of_one hcg.c0
                      have d3 := cell_of_one hc3.c3
                      have e3 := free_of_one hc3.c3
                      have hbF := (hbM.trans hbe).setCell (p := ⟨w.heap.size + 3, 0, none⟩) (by simp) (.bool false)
                      have hfin : SInv w.heap.size ⟨out ++ [[]], none, false⟩ ((w1.setCell ⟨w.heap.size, 0, none⟩ (.slice (some ⟨g, 0, none⟩) (vs2.length + 1) cap')).setCell ⟨w.heap.size + 3, 0, none⟩ (.bool false)) := ⟨N3, _, _, vn2, hc3.set3 false, hr3.setCell (by simp) _⟩
                      clear hown hgrow hat hlt' hcaps2 hrows3 hcg hc3 hr3 c0 f0 hbe hbM hrow
                      go_wp2
                      go_roundw
                      case rel => exact ⟨k + 1, by omega, by go_num, by rw [HS.out, hstep.out]; exact hfin, hbF⟩
                      case measure => simp [intOf]; omega
              · have hby' : byteB kd = false := by
                  cases hbk : byteB kd
                  · rfl
                  · exfalso
                    apply hby
                    refine ⟨hbk, ?_⟩
                    cases hs : softB ifs.data.toList (kd, c)
                    · rfl
                    · exact (h2 (by simpa [softB] using hs)).elim
                have b3 : (kd == 3) = false := by simpa using h3
                have b4 : (kd == 4) = false := by simpa using h4
                have hstep := hid (step_none ifs.data.toList st kd c hby' b3 b4)
                have b2 : (kd == 2) = false := by simp [byteB] at hby' ⊢; omega
                have hbt : (decide (0 ≤ kd) && decide (kd ≤ 2)) = false := hby'
                clear hby h2 hby'
                go_wp2_with fail
                refine (byted_any kd _ _).mono ?_; rintro e wx ⟨rfl, rfl⟩
                rw [hbt]
                have hbF := hbA.alloc (by simp; omega) (.cells #[.int .i64 kd, .int .u8 (c.toNat : Int)] 42)
                have hfin : SInv w.heap.size st ((wr.alloc (.cells #[.int .i64 kd, .int .u8 (c.toNat : Int)] 42)).alloc (.cells #[.int .i64 kd, .int .u8 (c.toNat : Int)] 42)) := ⟨N, vo, vs, vn, hcapsA.alloc _, hrowsA.alloc _⟩
                clear hcaps hrows hcapsA hrowsA hb hbA hc1 hc2 hbt
                go_wp2
                go_roundw
                case rel => exact ⟨k + 1, by omega, by go_num, by rw [HS.out, hstep.out]; exact hfin, hbF⟩
                case measure => simp [intOf]; omega
    · obtain rfl : k = l.length := by omega
      rw [List.take_length] at hinv
      have hol := run_len ifs.data.toList l ⟨[], none, false⟩
      have hnil : (none : Option (List (UInt8 × Bool))).toList.length = 0 := rfl
      simp only [List.length_nil] at hol
      have hA : (run ifs.data.toList ⟨[], none, false⟩ l).out.length ≤ 1000000 := by omega
      clear hol hnil
      go_wp2_with fail
      refine (end_any w.heap.size _ _ hinv hA).mono ?_; rintro e wx ⟨rfl, hinv2, hbel2⟩
      obtain ⟨N2, vo2, vs2, vn2, hcaps2, hrows2⟩ := hinv2
      have cn := cell_of_one hcaps2.c0
      have hbF := hb.trans hbel2
      generalize (run ifs.data.toList ⟨[], none, false⟩ l).now.isSome = bg at *
      go_wp2
      go_ret
      exact ⟨N2, vo2, vs2, rfl, hrows2.drop, hbF⟩
end Go.Proofs.Ytfadbbpnhppkpaa
