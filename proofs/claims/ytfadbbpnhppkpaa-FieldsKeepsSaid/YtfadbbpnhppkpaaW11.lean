/- The walk of whelkref16.Split: it returns the fields of the plain function, for up to 100000 bits. -/
import Derived.Test.YtfadbbpnhppkpaaW10
set_option linter.unusedVariables false
set_option linter.unusedSimpArgs false
namespace Go.Proofs.Ytfadbbpnhppkpaa
open Go.RowKit
attribute [local go_sem ↓] Go.wp_at_zero Go.wp_at_succ
theorem Try.info38 : (Try.prog.info? 38).map (fun i => (i.zero, i.size, i.bytes)) = some (some (.slice none 0 0), 1, 24) := by kernel_rfl
set_option maxRecDepth 100000 in
set_option maxHeartbeats 1600000 in
theorem refsplit_any (v : Value) (l : List (Int × UInt8)) (ifs : ByteArray) (w : World) (h : Rd w v l.length (bts l)) (hl : l.length ≤ 100000) (hs : ifs.size ≤ 100000) :
    Calls Try.prog 13 #[v, .string ifs] w fun e w' => ∃ v', e = .returned v' ∧ RdR w' v' (split ifs.data.toList l) ∧ Below w.heap.size w w' := by
  obtain ⟨A, cap, rfl, hcap, hx⟩ := h.open_
  clear h
  obtain ⟨i0, hi, hz0, hz1, hz2⟩ := info_parts Try.info38
  obtain ⟨j0, hj, jz0, jz1, jz2⟩ := info_parts Try.info57
  go_enter Try.func13, Try.ntmps13
  go_wp2
  go_loopw [5, 6, 7, 8] (fun o bg bl i wr => ∃ k : Nat, k ≤ l.length ∧ i = .int .i64 k ∧ bg = .bool (run ifs.data.toList ⟨[], none, false⟩ (l.take k)).now.isSome ∧ bl = .bool (run ifs.data.toList ⟨[], none, false⟩ (l.take k)).af ∧ (∃ N vs vn, RRows w.heap.size N o vs vn (run ifs.data.toList ⟨[], none, false⟩ (l.take k)).out (run ifs.data.toList ⟨[], none, false⟩ (l.take k)).now wr) ∧ Below w.heap.size w wr) (fun _ _ _ i _ => l.length - (intOf i).toNat)
  case atStart =>
    exact ⟨0, Nat.zero_le _, rfl, rfl, rfl, ⟨w.heap.size, [], .slice none 0 0, ⟨Nat.le_refl _, Nat.le_refl _, World.ownsRow_nil _ _ _ _, rfl, fun i v l a => by simp at a, fun l e => by cases e⟩⟩, Below.refl _ _⟩
  case round =>
    obtain ⟨k, hk, rfl, rfl, rfl, hinv, hb⟩ := hrel
    by_cases hlt : k < l.length
    · rcases hx with hx | ⟨b, off, rfl, hc⟩
      · exact (bts_ne hlt hx).elim
      · have hbw := hc.lt (bts_pos (by omega))
        obtain ⟨hc1, hc2⟩ := (hc.below hb).bt k hlt
        have HC := hid hc
        clear hc
        have hsn := run_snoc ifs.data.toList ⟨[], none, false⟩ l k hlt
        have hol := run_len ifs.data.toList (l.take k) ⟨[], none, false⟩
        have hon := run_now ifs.data.toList (l.take k) ⟨[], none, false⟩
        generalize run ifs.data.toList ⟨[], none, false⟩ (l.take k) = st at *
        have hmin : (l.take k).length ≤ k := List.length_take_le _ _
        have hnil : (none : Option (List (UInt8 × Bool))).toList.length = 0 := rfl
        simp only [List.length_nil] at hol hon
        have hA : st.out.length ≤ 1000000 := by omega
        have hA2 : (st.now.getD []).length ≤ 1000000 := by simp only [Option.getD_none, List.length_nil] at hon; omega
        clear hol hon hmin hnil
        obtain ⟨kd, c, hkc⟩ : ∃ kd c, l[k] = (kd, c) := ⟨_, _, rfl⟩
        rw [hkc] at hc1 hc2 hsn
        have HS := hid hsn
        have HKC := hid hkc
        clear hsn hkc
        have hsz := hb.size
        obtain ⟨N, vs, vn, hrows⟩ := hinv
        have hrowsA := hrows.alloc (.cells #[.int .i64 kd, .int .u8 (c.toNat : Int)] 56)
        have hbA := hb.alloc hsz (.cells #[.int .i64 kd, .int .u8 (c.toNat : Int)] 56)
        obtain ⟨out, now, af⟩ := st
        dsimp only at hA hA2 hrows hrowsA
        cases hsf : softB ifs.data.toList (kd, c) with
        | true =>
          cases hbl : blankB c with
          | true =>
            have HK := hid (show kindOf ifs.data.toList kd c = 4 by simp [kindOf, hsf, hbl])
            have hsf2 := hsf
            simp only [softB, Bool.and_eq_true, beq_iff_eq] at hsf2
            obtain ⟨rfl, hn⟩ := hsf2
            have hstep := hid (step_blank ifs.data.toList ⟨out, now, af⟩ c hn hbl)
            obtain ⟨us, hfin⟩ := hrowsA.close
            clear hsf hbl hn hrows hrowsA hb
            cases now <;> cases af
            all_goals
              go_wp2_with fail
              refine (kind_any _ c ifs _ (by omega)).mono ?_; rintro e wx ⟨rfl, rfl⟩
              rw [HK.out]
              go_wp2
              go_roundw
              case rel => exact ⟨k + 1, by omega, by go_num, by rw [HS.out, hstep.out] <;> rfl, by rw [HS.out, hstep.out] <;> rfl, by rw [HS.out, hstep.out]; exact ⟨_, us, _, hfin⟩, hbA⟩
              case measure => simp [intOf]; omega
          | false =>
            have HK := hid (show kindOf ifs.data.toList kd c = 5 by simp [kindOf, hsf, hbl])
            have hsf2 := hsf
            simp only [softB, Bool.and_eq_true, beq_iff_eq] at hsf2
            obtain ⟨rfl, hn⟩ := hsf2
            have hstep := hid (step_edge ifs.data.toList ⟨out, now, af⟩ c hn hbl)
            have hlo := hrows.lo
            clear hsf hbl hn
            cases now with
            | some m =>
              obtain ⟨us, hfin⟩ := hrowsA.close
              clear hrows hrowsA hb
              go_wp2_with fail
              refine (kind_any _ c ifs _ (by omega)).mono ?_; rintro e wx ⟨rfl, rfl⟩
              rw [HK.out]
              go_wp2
              go_roundw
              case rel => exact ⟨k + 1, by omega, by go_num, by rw [HS.out, hstep.out] <;> rfl, by rw [HS.out, hstep.out] <;> rfl, by rw [HS.out, hstep.out]; exact ⟨_, _, _, hfin⟩, hbA⟩
              case measure => simp [intOf]; omega
            | none =>
              cases af with
              | true =>
                obtain ⟨us, hfin⟩ := hrowsA.close
                clear hrows hrowsA hb
                go_wp2_with fail
                refine (kind_any _ c ifs _ (by omega)).mono ?_; rintro e wx ⟨rfl, rfl⟩
                rw [HK.out]
                go_wp2
                go_roundw
                case rel => exact ⟨k + 1, by omega, by go_num, by rw [HS.out, hstep.out] <;> rfl, by rw [HS.out, hstep.out] <;> rfl, by rw [HS.out, hstep.out]; simp only [Option.isSome_none, Bool.false_eq_true, if_false, if_true]; exact ⟨_, _, _, by simpa using hfin⟩, hbA⟩
                case measure => simp [intOf]; omega
              | false =>
                have hro : (wr.alloc (Obj.cells #[Value.int IntKind.i64 2, Value.int IntKind.u8 ↑c.toNat] 56)).ownsRow w.heap.size 38 1 u5 vs.length vs := by simpa using hrowsA.ro
                have hvl := hrows.ln
                go_wp2_with fail
                refine (kind_any _ c ifs _ (by omega)).mono ?_; rintro e wx ⟨rfl, rfl⟩
                rw [HK.out]
                go_wp2_with (at_builtin; (refine wpList_append_lies _ rfl (.tmp 76) (.tmp 77) 33 rfl w.heap.size 38 i0 _ 1 24 Try.underlying33 hi hz0 hz1 hz2 rfl (by decide) u5 vs.length vs rfl (hro.alloc _) ⟨wr.heap.size + 1, 0, none⟩ 1 1 [.slice none 0 0] rfl rfl (World.news_of_block (cs := #[.slice none 0 0]) (t := 38) (fr := (0, 0)) (heap_last _ _ _ (by simp))) (by simp [Value.oneCell']) (by omega) (by unfold maxLen; omega) (by omega) (by simp; omega) (wr.heap.size + 1 + 1) (by simp) ?_))
                intro g1 cap1 w1 hown1 hgrow1 _ _
                obtain ⟨us, hfin⟩ := ((hrowsA.alloc _).begin_ (vo' := .slice (some ⟨g1, 0, none⟩) (out.length + 1) cap1) (by rw [hvl]; exact hown1) hgrow1).close
                have hbF := (hbA.alloc (by simp; omega) (.cells #[.slice none 0 0] 38)).grown hgrow1 (by simp; omega) (fun g e => (hro.lt g e).1)
                clear hrows hrowsA hb hbA hro hown1 hgrow1
                go_wp2
                go_roundw
                case rel => exact ⟨k + 1, by omega, by go_num, by rw [HS.out, hstep.out] <;> rfl, by rw [HS.out, hstep.out] <;> rfl, by rw [HS.out, hstep.out]; exact ⟨_, _, _, hfin⟩, hbF⟩
                case measure => simp [intOf]; omega
        | false =>
          by_cases hk3 : kd = 3
          · subst hk3
            have HK := hid (show kindOf ifs.data.toList 3 c = 2 by simp [kindOf, hsf, byteB])
            have hstep := hid (step_mark ifs.data.toList ⟨out, now, af⟩ c)
            have hlo := hrows.lo
            clear hsf
            cases now with
            | some m =>
              clear hrows hb
              go_wp2_with fail
              refine (kind_any _ c ifs _ (by omega)).mono ?_; rintro e wx ⟨rfl, rfl⟩
              rw [HK.out]
              go_wp2
              go_roundw
              case rel => exact ⟨k + 1, by omega, by go_num, by rw [HS.out, hstep.out] <;> rfl, by rw [HS.out, hstep.out] <;> rfl, by rw [HS.out, hstep.out]; exact ⟨_, _, _, hrowsA⟩, hbA⟩
              case measure => simp [intOf]; omega
            | none =>
              have hro : (wr.alloc (Obj.cells #[Value.int IntKind.i64 3, Value.int IntKind.u8 ↑c.toNat] 56)).ownsRow w.heap.size 38 1 u5 vs.length vs := by simpa using hrowsA.ro
              have hvl := hrows.ln
              go_wp2_with fail
              refine (kind_any _ c ifs _ (by omega)).mono ?_; rintro e wx ⟨rfl, rfl⟩
              rw [HK.out]
              go_wp2_with (at_builtin; (refine wpList_append_lies _ rfl (.tmp 31) (.tmp 32) 33 rfl w.heap.size 38 i0 _ 1 24 Try.underlying33 hi hz0 hz1 hz2 rfl (by decide) u5 vs.length vs rfl (hro.alloc _) ⟨wr.heap.size + 1, 0, none⟩ 1 1 [.slice none 0 0] rfl rfl (World.news_of_block (cs := #[.slice none 0 0]) (t := 38) (fr := (0, 0)) (heap_last _ _ _ (by simp))) (by simp [Value.oneCell']) (by omega) (by unfold maxLen; omega) (by omega) (by simp; omega) (wr.heap.size + 1 + 1) (by simp) ?_))
              intro g1 cap1 w1 hown1 hgrow1 _ _
              have hbF := (hbA.alloc (by simp; omega) (.cells #[.slice none 0 0] 38)).grown hgrow1 (by simp; omega) (fun g e => (hro.lt g e).1)
              have hfin := (hrowsA.alloc _).begin_ (vo' := .slice (some ⟨g1, 0, none⟩) (out.length + 1) cap1) (by rw [hvl]; exact hown1) hgrow1
              clear hrows hrowsA hb hbA hro hown1 hgrow1
              go_wp2
              go_roundw
              case rel => exact ⟨k + 1, by omega, by go_num, by rw [HS.out, hstep.out] <;> rfl, by rw [HS.out, hstep.out] <;> rfl, by rw [HS.out, hstep.out]; exact ⟨_, _, _, hfin⟩, hbF⟩
              case measure => simp [intOf]; omega
          · by_cases hk4 : kd = 4
            · subst hk4
              have HK := hid (show kindOf ifs.data.toList 4 c = 3 by simp [kindOf, hsf, byteB])
              have hstep := hid (step_cut ifs.data.toList ⟨out, now, af⟩ c)
              obtain ⟨us, hfin⟩ := hrowsA.close
              clear hsf hrows hrowsA hb
              go_wp2_with fail
              refine (kind_any _ c ifs _ (by omega)).mono ?_; rintro e wx ⟨rfl, rfl⟩
              rw [HK.out]
              go_wp2
              go_roundw
              case rel => exact ⟨k + 1, by omega, by go_num, by rw [HS.out, hstep.out] <;> rfl, by rw [HS.out, hstep.out] <;> rfl, by rw [HS.out, hstep.out]; exact ⟨_, _, _, hfin⟩, hbA⟩
              case measure => simp [intOf]; omega
            · cases hby : byteB kd with
              | false =>
                have HK := hid (show kindOf ifs.data.toList kd c = 0 by simp [kindOf, hsf, hby, hk3, hk4])
                have hstep := hid (step_none ifs.data.toList ⟨out, now, af⟩ kd c hby (by simpa using hk3) (by simpa using hk4))
                clear hsf hrows hb hk3 hk4 hby
                go_wp2_with fail
                refine (kind_any _ c ifs _ (by omega)).mono ?_; rintro e wx ⟨rfl, rfl⟩
                rw [HK.out]
                go_wp2
                go_roundw
                case rel => exact ⟨k + 1, by omega, by go_num, by rw [HS.out, hstep.out] <;> rfl, by rw [HS.out, hstep.out] <;> rfl, by rw [HS.out, hstep.out]; exact ⟨_, _, _, hrowsA⟩, hbA⟩
                case measure => simp [intOf]; omega
              | true =>
                have HK := hid (show kindOf ifs.data.toList kd c = 1 by simp [kindOf, hsf, hby])
                have hstep := hid (step_byte ifs.data.toList ⟨out, now, af⟩ kd c hby hsf)
                have hlo := hrows.lo
                clear hsf hk3 hk4 hby
                go_wp2_with fail
                refine (kind_any _ c ifs _ (by omega)).mono ?_; rintro e wx ⟨rfl, rfl⟩
                rw [HK.out]
                go_upto_if 28 with fail
                go_cut [5, 6, 7] (fun o bg bl wx => bg = .bool true ∧ bl = .bool false ∧ (∃ N vs vn, RRows w.heap.size N o vs vn out (some (now.getD [])) wx) ∧ Below w.heap.size w wx)
                case first =>
                  cases now with
                  | some m =>
                    go_wp2
                    go_meet
                    exact ⟨rfl, rfl, ⟨_, _, _, hrowsA⟩, hbA⟩
                  | none =>
                    have hro : (wr.alloc (Obj.cells #[Value.int IntKind.i64 kd, Value.int IntKind.u8 ↑c.toNat] 56)).ownsRow w.heap.size 38 1 u5 vs.length vs := by simpa using hrowsA.ro
                    have hvl := hrows.ln
                    go_wp2_with (at_builtin; (refine wpList_append_lies _ rfl (.tmp 31) (.tmp 32) 33 rfl w.heap.size 38 i0 _ 1 24 Try.underlying33 hi hz0 hz1 hz2 rfl (by decide) u5 vs.length vs rfl (hro.alloc _) ⟨wr.heap.size + 1, 0, none⟩ 1 1 [.slice none 0 0] rfl rfl (World.news_of_block (cs := #[.slice none 0 0]) (t := 38) (fr := (0, 0)) (heap_last _ _ _ (by simp))) (by simp [Value.oneCell']) (by omega) (by unfold maxLen; omega) (by omega) (by simp; omega) (wr.heap.size + 1 + 1) (by simp) ?_))
                    intro g1 cap1 w1 hown1 hgrow1 _ _
                    have hbF := (hbA.alloc (by simp; omega) (.cells #[.slice none 0 0] 38)).grown hgrow1 (by simp; omega) (fun g e => (hro.lt g e).1)
                    have hfin := (hrowsA.alloc _).begin_ (vo' := .slice (some ⟨g1, 0, none⟩) (out.length + 1) cap1) (by rw [hvl]; exact hown1) hgrow1
                    clear hrows hrowsA hb hbA hro hown1 hgrow1
                    go_wp2
                    go_meet
                    exact ⟨rfl, rfl, ⟨_, _, _, hfin⟩, hbF⟩
                case rest =>
                  obtain ⟨rfl, rfl, ⟨N2, vs2, vn2, hr⟩, hbc⟩ := hcut
                  obtain ⟨m1, m2⟩ := (HC.out.below hbc).bt k hlt
                  rw [HKC.out] at m1 m2
                  have hqc := hbc.size
                  have hn := hr.rn _ rfl
                  have hvl2 := hr.ln
                  have hro : wc.ownsRow w.heap.size 38 1 u5 (vs2.length + 1) (vs2 ++ [vn2]) := by simpa using hr.ro
                  obtain ⟨g, cp, rfl, hgB, hgL, hcell, hfro, hgh⟩ : ∃ g cp, u5 = .slice (some ⟨g, 0, none⟩) (vs2.length + 1) cp ∧ w.heap.size ≤ g ∧ g < wc.heap.size ∧ wc.cell? ⟨g, vs2.length, none⟩ = some vn2 ∧ wc.frozen? ⟨g, vs2.length, none⟩ = false ∧ ∃ cs fr, wc.heap[g]? = some (.cells cs 38 fr) := by
                    rcases hro.2 with ⟨_, hnil⟩ | ⟨g, cp, cur, rfl, h1, h2, h3⟩
                    · simp at hnil
                    · have hc := hro.cells (g := g) rfl vs2.length vn2 (by simp)
                      rw [Addr.add_lit, Nat.zero_add] at hc
                      exact ⟨g, cp, rfl, h1, lt_of_block h2, hc, hro.frozenAt vs2.length, _, _, h2⟩
                  obtain ⟨cs0, fr0, hgh⟩ := hgh
                  obtain ⟨a1, n1, k1, rfl⟩ := own_slice hn
                  have hne1 : (Value.slice a1 n1 k1).ownBlock ≠ some g := own_ne_blk hn hgh (by decide)
                  have hlo2 := hr.lo
                  have hhi2 := hr.hi
                  have hAA : vs2.length ≤ 1000000 := by omega
                  have hrA := (hr.alloc (.cells #[.int .u8 (c.toNat : Int), .bool (kd == 1)] 57)).drew
                  have hbA2 := (hbc.alloc hqc (.cells #[.int .u8 (c.toNat : Int), .bool (kd == 1)] 57)).drew
                  clear hrows hrowsA hb hbA hc1 hc2 hlo hro hgh hvl2
                  have hix : ((vs2.length : Int) < (vs2.length : Int) + 1) := by omega
                  have q1 := al (o := .cells #[.int .u8 (c.toNat : Int), .bool (kd == 1)] 57) hcell
                  go_wp2_with fail
                  go_region_law
                    ((with_reducible refine at_app ?_); refine step_append_lies _ (by rfl) _ _ _ (by rfl) N2 57 j0 _ 2 2 Try.underlying38 hj jz0 jz1 jz2 rfl (by omega) (.slice a1 n1 k1) (now.getD []).length (chs (now.getD [])) (by simp [Act.eval, Act.put]) ((hn.alloc _).drew) ⟨wc.heap.size, 0, none⟩ 1 1 [.int .u8 (c.toNat : Int), .bool (kd == 1)] (by simp [Act.eval, Act.put]) (by rfl) (World.news_of_block (cs := #[.int .u8 (c.toNat : Int), .bool (kd == 1)]) (t := 57) (fr := (0, 0)) (heap_alloc_new wc _)) (one_ch _ _) (by omega) (by unfold maxLen; omega) (by omega) (by simp; omega) (wc.heap.size + 1) (by simp) ?_; intro gg cap2 w1 hown1 hgrow hat hlt1; have c1c := hgrow.cell (dr (al hcell)) (Ne.symm hne1); have c1f := grf hgrow (dr (al hcell)) (drf (alf hfro)) (Ne.symm hne1))
                  all_goals
                    have hfin := hrA.put (c := (c, kd == 1)) hown1 hgrow
                    have hbF := (hbA2.grown hgrow (by simp; omega) (fun j e => by have := (hn.lt j e).1; omega)).setCell (p := ⟨g, vs2.length, none⟩) hgB (.slice (some ⟨gg, 0, none⟩) ((now.getD []).length + 1) cap2)
                    clear hown1 hgrow hat hlt1 hr hn q1 hcell hfro m1 m2 c1c c1f hrA hbA2 hbc
                    go_wp2
                    go_roundw
                    case rel => exact ⟨k + 1, by omega, by go_num, by rw [HS.out, hstep.out] <;> rfl, by rw [HS.out, hstep.out] <;> rfl, by rw [HS.out, hstep.out]; exact ⟨_, _, _, hfin⟩, hbF⟩
                    case measure => simp [intOf]; omega
    · obtain rfl : k = l.length := by omega
      rw [List.take_length] at *
      obtain ⟨N, vs, vn, hrows⟩ := hinv
      have hr := RdR.of_rrows hrows
      clear hrows
      go_wp2
      go_ret
      exact ⟨_, rfl, hr, hb⟩
end Go.Proofs.Ytfadbbpnhppkpaa
