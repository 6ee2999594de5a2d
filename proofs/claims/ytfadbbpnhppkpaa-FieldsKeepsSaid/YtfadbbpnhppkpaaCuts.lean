/- The walk of FieldsCuts: it returns true at every input. No condition but that lengths fit an int. -/
import Derived.Test.YtfadbbpnhppkpaaCutsLaw
import Derived.Deep.RegionHeld3
import Derived.Deep.DeepCutAuto
import Derived.Deep.DeepMust
set_option linter.unusedVariables false
set_option linter.unusedSimpArgs false
namespace Go.Proofs.Ytfadbbpnhppkpaa
open Go.RowKit
attribute [local go_sem ↓] Go.wp_at_zero Go.wp_at_succ
theorem Try.info9 : (Try.prog.info? 9).map (fun i => (i.zero, i.size, i.bytes)) = some (some (.string ByteArray.empty), 1, 16) := by kernel_rfl
theorem own_below {w w' : World} {base e size : Nat} {v : Value} {n : Nat} {xs : List Value} (h : w.ownsRow base e size v n xs) (hb : Below w.heap.size w w') : w'.ownsRow base e size v n xs :=
  h.kept (row := none) ⟨hb.os, hb.tape, hb.output, hb.size, fun k hk _ => hb.block k hk⟩ (by cases hv : v.ownBlock <;> simp)
theorem str_nil (a : List UInt8) : ((⟨#[]⟩ : ByteArray) ++ (⟨a.toArray⟩ : ByteArray)) = ⟨([] ++ a).toArray⟩ := by
  apply ByteArray.ext; simp [ByteArray.data_append]
theorem bel_cell {w w' : World} {a : Addr} {u : Value} (hb : Below w.heap.size w w') (h : w.cell? a = some u) : w'.cell? a = some u := (hb.cell (World.block_lt_of_cell? w a h)).trans h
theorem take_last {l : List (List UInt8)} {n k : Nat} (h : ∀ t ∈ l.take (k + 1), t.length ≤ n) : (∀ t ∈ l.take k, t.length ≤ n) ∧ (l[k]?.getD []).length ≤ n := by
  rcases Nat.lt_or_ge k l.length with hk | hk
  · rw [List.take_succ_eq_append_getElem hk] at h
    refine ⟨fun t ht => h t (List.mem_append_left _ ht), ?_⟩
    rw [List.getElem?_eq_getElem hk]; exact h l[k] (List.mem_append_right _ (List.mem_singleton.2 rfl))
  · rw [List.take_of_length_le (by omega)] at h
    refine ⟨fun t ht => h t (List.mem_of_mem_take ht), ?_⟩
    rw [List.getElem?_eq_none hk]; simp
theorem cb_len' (l : List (List UInt8)) (n k : Nat) : (∀ t ∈ l.take k, t.length ≤ n) → (cb l k).length ≤ k * (n + 1) := by
  induction k with
  | zero => intro _; simp [cb]
  | succ k ih =>
    intro h
    obtain ⟨h1, h2⟩ := take_last h
    have := ih h1
    have hif : (if k = 0 then ([] : List (Int × UInt8)) else [(4, 0)]).length ≤ 1 := by split <;> simp
    simp only [cb, List.length_append, tb, List.length_map]
    rw [Nat.add_mul]; omega
theorem jn_len' (l : List (List UInt8)) (n k : Nat) : (∀ t ∈ l.take k, t.length ≤ n) → (jn l k).length ≤ k * (n + 1) := by
  induction k with
  | zero => intro _; simp [jn]
  | succ k ih =>
    intro h
    obtain ⟨h1, h2⟩ := take_last h
    have := ih h1
    simp only [jn]
    rw [Nat.add_mul]
    split
    · omega
    · split <;> (try simp) <;> omega
theorem At.of_own {w : World} {base e size g n cap : Nat} {xs : List Value} (h : w.ownsRow base e size (.slice (some ⟨g, 0, none⟩) n cap) n xs) : At w g 0 xs := fun j u hu => by
  have := h.cells (g := g) rfl j u hu
  rwa [Addr.add_lit] at this
set_option maxHeartbeats 400000 in
theorem bits_some (s : ByteArray) (kd : Int) (w : World) (hs : s.size ≤ 1000000) :
    Calls Try.prog 12 #[.string s, .int .i64 kd] w fun e w' => ∃ g, e = .returned (.slice (some ⟨g, 0, none⟩) s.size s.size) ∧ At w' g 0 (bts (s.data.toList.map fun c => (kd, c))) ∧ Below w.heap.size w w' := by
  obtain ⟨i0, hi, hz0, hz1, hz2⟩ := info_parts Try.info42
  go_enter Try.func12, Try.ntmps12
  go_wp2_with (at_make; refine wpList_make_full _ rfl _ _ 30 rfl w.heap.size 42 i0 _ 2 Try.underlying30 hi hz0 hz1 .i64 .i64 s.size s.size s.size rfl rfl rfl rfl (by rw [hz2]; omega) (by unfold maxLen; omega) (by omega) ?_; intro w1 hown hgrow)
  go_loopw [12] (fun i wr => ∃ (k : Nat) (zs : List Value), k ≤ s.size ∧ i = .int .i64 k ∧ zs.length = (s.size - k) * 2 ∧ wr.ownsRow w.heap.size 42 2 (.slice (some ⟨w.heap.size, 0, none⟩) s.size s.size) s.size (bts ((s.data.toList.take k).map fun c => (kd, c)) ++ zs) ∧ Below w.heap.size w wr) (fun i _ => s.size - (intOf i).toNat)
  case atStart => 
    exact ⟨0, _, Nat.zero_le _, rfl, by have := hown.1; simpa using this, hown, (Below.refl _ _).grown hgrow (Nat.le_refl _) (by simp)⟩
  case round =>
    obtain ⟨k, zs, hk, rfl, hzl, hown, hb⟩ := hrel
    by_cases hlt : k < s.size
    · match zs, hzl with
      | [], hzl => simp at hzl; omega
      | [_], hzl => simp at hzl; omega
      | a :: b :: zs, hzl =>
        have hf1 := hown.frozenAt (k * 2)
        have hf2 := hown.frozenAt (k * 2 + 1)
        have hsz := hb.size
        have ho2 := own_set2 hown k (by simp [bts_len]; omega) (.int .i64 kd) (.int .u8 (s[k].toNat : Int))
        have hc1 := hown.cellAt (k * 2) (by omega)
        have hc2 := hown.cellAt (k * 2 + 1) (by omega)
        have hl1 : (bts ((s.data.toList.take k).map fun c => (kd, c))).length = k * 2 := by simp [bts_len]; omega
        rw [List.getElem?_append_right (by omega), hl1] at hc1 hc2
        simp at hc1 hc2
        clear hown hl1
        go_wp2
        go_roundw
        case rel =>
          refine ⟨k + 1, zs, by omega, by go_num, by simp at hzl; omega, ?_, (hb.setCell (Nat.le_refl _) _).setCell (Nat.le_refl _) _⟩
          rw [List.take_succ_eq_append_getElem (by simpa using hlt), List.map_append, bts_append, List.append_assoc]
          exact ho2
        case measure => simp [intOf]; omega
    · obtain rfl : k = s.size := by omega
      have hz : zs = [] := List.eq_nil_of_length_eq_zero (by simpa using hzl)
      subst hz
      have hr := At.of_own hown
      rw [List.append_nil, List.take_of_length_le (by simp)] at hr
      clear hown hzl
      go_wp2
      go_ret
      exact ⟨_, rfl, hr, hb⟩


set_option maxRecDepth 100000 in
set_option maxHeartbeats 2000000 in
theorem cuts_any (v : Value) (l : List (List UInt8)) (ifs : ByteArray) (w : World) (h : Rd w v l.length (l.map strV)) (hl9 : l.length ≤ 9223372036854775807) (hs9 : ∀ t ∈ l, t.length ≤ 9223372036854775807) (hi9 : ifs.size ≤ 9223372036854775807) :
    Calls Try.prog 6 #[v, .string ifs] w fun e w' => e = .returned (.bool true) ∧ Below w.heap.size w w' := by
  obtain ⟨A, cap, rfl, hcap, hx⟩ := h.open_
  clear h
  by_cases h1 : 20 < l.length
  · go_enter Try.func6, Try.ntmps6
    go_wp2_with (go_at_call 8; refine (awake_any _).mono ?_; rintro e w1 ⟨rfl, hb1⟩)
    go_ret
    exact ⟨rfl, hb1⟩
  by_cases h2 : 20 < ifs.size
  · go_enter Try.func6, Try.ntmps6
    go_wp2_with (go_at_call 8; refine (awake_any _).mono ?_; rintro e w1 ⟨rfl, hb1⟩)
    go_ret
    exact ⟨rfl, hb1⟩
  obtain ⟨i0, hi, hz0, hz1, hz2⟩ := info_parts Try.info42
  obtain ⟨j0, hj, jz0, jz1, jz2⟩ := info_parts Try.info9
  have d1 : decide ((20 : Int) < (l.length : Int)) = false := by simp; omega
  have d2 : decide ((20 : Int) < (ifs.size : Int)) = false := by simp; omega
  go_enter Try.func6, Try.ntmps6
  go_wp2
  go_loopw [5, 6, 7, 8] (fun vb vw vj i wr => ∃ k : Nat, k ≤ l.length ∧ i = .int .i64 k ∧ wr.ownsRow w.heap.size 42 2 vb (cb l k).length (bts (cb l k)) ∧ wr.ownsRow w.heap.size 9 1 vw (wt l k).length ((wt l k).map strV) ∧ vj = .string ⟨(jn l k).toArray⟩ ∧
    (∀ t ∈ l.take k, t.length ≤ 20) ∧ Below w.heap.size w wr) (fun _ _ _ i _ => l.length - (intOf i).toNat)
  case atStart => exact ⟨0, Nat.zero_le _, rfl, World.ownsRow_nil _ _ _ _, World.ownsRow_nil _ _ _ _, rfl, fun t ht => by simp at ht, Below.refl _ _⟩
  case round =>
    obtain ⟨k, hk, rfl, hob, how, rfl, hall, hb⟩ := hrel
    by_cases hlt : k < l.length
    · rcases hx with hx | ⟨b, off, rfl, hc⟩
      · simp at hx; rw [hx] at hlt; simp at hlt
      · have hbw := hc.lt (by simp; omega)
        have hc1 := (hc.below hb) k (strV l[k]) (by simp [List.getElem?_eq_getElem hlt])
        have hsz9 := hs9 l[k] (List.getElem_mem hlt)
        have htk := hid (List.take_succ_eq_append_getElem hlt)
        have hA := hid hall
        have hsz := hb.size
        have hcbl : (cb l k).length ≤ 20 * 21 := Nat.le_trans (cb_len' l 20 k hall) (Nat.mul_le_mul_right _ (by omega))
        have hwtl : (wt l k).length ≤ 20 := by have := wt_len l k; omega
        have hjnl : (jn l k).length ≤ 20 * 21 := Nat.le_trans (jn_len' l 20 k hall) (Nat.mul_le_mul_right _ (by omega))
        have hC := hid (show cb l (k + 1) = (cb l k ++ (if k = 0 then [] else [(4, 0)])) ++ tb k l[k] by simp [cb, List.getElem?_eq_getElem hlt])
        have hW := hid (show wt l (k + 1) = if l[k] = [] then wt l k else wt l k ++ [l[k]] by simp [wt, List.getElem?_eq_getElem hlt])
        have hJ := hid (show jn l (k + 1) = if l[k] = [] then jn l k else (if jn l k = [] then [] else jn l k ++ [32]) ++ l[k] by simp [jn, List.getElem?_eq_getElem hlt])
        clear hall hc
        generalize l[k] = t at *
        generalize cb l k = cbk at *
        generalize wt l k = wtk at *
        generalize jn l k = jnk at *
        unfold strV at hc1
        by_cases h20 : 20 < t.length
        · go_wp2_with (go_at_call 8; refine (awake_any _).mono ?_; rintro e w1 ⟨rfl, hb1⟩)
          go_ret
          exact ⟨rfl, hb.trans (hb1.mono hb.size)⟩
        · go_upto_if 34 with fail
          obtain ⟨cbm, hcbm⟩ : ∃ cbm, cbm = cbk ++ (if k = 0 then [] else [(4, 0)]) := ⟨_, rfl⟩
          have HM := hid hcbm
          rw [← hcbm] at hC
          clear hcbm
          go_cut [5] (fun vb wx => wx.ownsRow w.heap.size 42 2 vb cbm.length (bts cbm) ∧ wx.ownsRow w.heap.size 9 1 u6 wtk.length (wtk.map strV) ∧ wx.cell? ⟨b, off + k, none⟩ = some (.string ⟨t.toArray⟩) ∧ Below w.heap.size w wx)
          case first =>
            by_cases hk0 : k = 0
            · have hkp : ¬ (0 : Int) < (k : Int) := by omega
              have hm : cbm = cbk := by rw [HM.out, if_pos hk0, List.append_nil]
              rw [← hm] at hob
              clear hm hk0
              go_wp2
              go_meet
              exact ⟨hob, how, hc1, hb⟩
            · have hkp : (0 : Int) < (k : Int) := by omega
              have hm : cbm = cbk ++ [(4, 0)] := by rw [HM.out, if_neg hk0]
              have hml : cbm.length = cbk.length + 1 := by rw [hm]; simp
              have hmb : bts cbm = bts cbk ++ [.int .i64 4, .int .u8 0] := by rw [hm, bts_append]; rfl
              have HM1 := hid hml
              have HM2 := hid hmb
              clear hm hml hmb hk0
              go_wp2_with (at_builtin; refine wpList_append_lies _ rfl (.tmp 35) (.tmp 37) 30 rfl w.heap.size 42 i0 _ 2 16 Try.underlying30 hi hz0 hz1 hz2 rfl (by decide) u5 cbk.length (bts cbk) rfl (hob.alloc _) ⟨wr.heap.size, 0, none⟩ 1 1 [.int .i64 4, .int .u8 0] rfl rfl (World.news_of_block (cs := #[.int .i64 4, .int .u8 0]) (t := 42) (fr := (0, 0)) (heap_last _ _ _ (by simp))) (bts_one [(4, 0)]) (by omega) (by unfold maxLen; omega) (by omega) (by simp; omega) (wr.heap.size + 1) (by simp) ?_)
              intro g1 cap1 w1 hob1 hgrow1 _ _
              have hne : some b ≠ u5.ownBlock := fun e => by have := (hob.lt _ e.symm).1; omega
              have hc2 := hgrow1.cell (al (o := .cells #[.int .i64 4, .int .u8 0] 42) hc1) hne
              have how1 := (how.alloc (.cells #[.int .i64 4, .int .u8 0] 42)).kept hgrow1 (own_ne how hob (by decide))
              have hb1 := (hb.alloc hsz (.cells #[.int .i64 4, .int .u8 0] 42)).grown hgrow1 (by simp; omega) (fun g e => (hob.lt g e).1)
              go_wp2
              go_meet
              exact ⟨by rw [HM1.out, HM2.out]; exact hob1, how1, hc2, hb1⟩
          case rest =>
            obtain ⟨hob1, how1, hc2, hb1⟩ := hcut
            have hq1 := hb1.size
            have HCB := hid (show cbm.length ≤ 20 * 22 by rw [HM.out]; split <;> simp <;> omega)
            have hcbm := HCB.out
            go_wp2_with fail
            refine (bits_some ⟨t.toArray⟩ (par k) _ (by rw [size_arr]; omega)).mono ?_; rintro e w2 ⟨g2, rfl, hat2, hb2⟩
            rw [size_arr]
            have hat : At w2 g2 0 (bts (tb k t)) := by simpa [tb] using hat2
            have hob2 := own_below hob1 hb2
            have how2 := own_below how1 hb2
            have hc3 := (hb2.cell (World.block_lt_of_cell? wc _ hc2)).trans hc2
            have hb3 := hb1.trans (hb2.mono hq1)
            have hq3 := hb3.size
            clear hat2 hb2 hob1 how1 hc2 hb1 hob how hb hc1
            have hne5 : some b ≠ u5.ownBlock := fun e => by have := (hob2.lt _ e.symm).1; omega
            go_upto_if 52 with (at_builtin; refine wpList_append_own _ rfl (.tmp 39) (.tmp 46) 30 rfl w.heap.size 42 i0 _ 2 16 Try.underlying30 hi hz0 hz1 hz2 rfl (by decide) u5 cbm.length (bts cbm) rfl hob2 ⟨g2, 0, none⟩ t.length t.length (bts (tb k t)) rfl (by rw [bts_len]; simp [tb]) (fun j u hu => by rw [Addr.add_lit]; exact hat j u hu) (bts_one _) (by unfold maxLen; omega) (by omega) hq3 ?_; intro v3 w3 hob3 hgrow3 _; have hc4 := hgrow3.cell hc3 hne5)
            have how3 := how2.kept hgrow3 (own_ne how2 hob2 (by decide))
            have hb4 := hb3.grown hgrow3 hq3 (fun g e => (hob2.lt g e).1)
            have hobF : w3.ownsRow w.heap.size 42 2 v3 (cb l (k + 1)).length (bts (cb l (k + 1))) := by
              rw [hC.out, bts_append, List.length_append]; simpa [tb] using hob3
            clear hob2 how2 hc3 hb3 hq3 hat hgrow3 hob3 hne5
            have hq4 := hb4.size
            cases t with
            | nil =>
              go_wp2
              go_roundw
              case rel =>
                refine ⟨k + 1, by omega, by go_num, hobF, by rw [hW.out]; exact how3, by rw [hJ.out]; rfl, ?_, hb4⟩
                intro u hu
                rw [htk.out, List.mem_append, List.mem_singleton] at hu
                rcases hu with hu | rfl
                · exact hA.out u hu
                · omega
              case measure => simp [intOf]; omega
            | cons x r =>
              have hr1 : r.length + 1 ≤ 20 := by simp only [List.length_cons] at h20; omega
              have hne6 : some b ≠ u6.ownBlock := fun e => by have := (how3.lt _ e.symm).1; omega
              cases jnk with
              | nil =>
                go_wp2_with (at_builtin; go_must (refine wpList_append_lies _ rfl (.tmp 53) (.tmp 58) 25 rfl w.heap.size 9 j0 _ 1 16 Try.underlying25 hj jz0 jz1 jz2 rfl (by decide) u6 wtk.length (wtk.map strV) rfl (how3.alloc _) ⟨w3.heap.size, 0, none⟩ 1 1 [.string ⟨(x :: r).toArray⟩] rfl rfl (World.news_of_block (cs := #[.string ⟨(x :: r).toArray⟩]) (t := 9) (fr := (0, 0)) (heap_last _ _ _ (by simp))) (by intro u hu; simp at hu; subst hu; rfl) (by omega) (by unfold maxLen; omega) (by omega) (by simp; omega) (w3.heap.size + 1) (by simp) ?_); intro g6 cap6 w6 how6 hgrow6 _ _; have hc6 := hgrow6.cell (al (o := .cells #[.string ⟨(x :: r).toArray⟩] 9) hc4) hne6)
                have hb6 := (hb4.alloc hq4 (.cells #[.string ⟨(x :: r).toArray⟩] 9)).grown hgrow6 (by simp; omega) (fun g e => (how3.lt g e).1)
                have hob6 := (hobF.alloc (.cells #[.string ⟨(x :: r).toArray⟩] 9)).kept hgrow6 (own_ne hobF how3 (by decide))
                have howF : w6.ownsRow w.heap.size 9 1 (.slice (some ⟨g6, 0, none⟩) (wtk.length + 1) cap6) (wt l (k + 1)).length ((wt l (k + 1)).map strV) := by
                  rw [hW.out, if_neg (by simp), List.map_append, List.length_append]; exact how6
                clear how6 hgrow6 hne6
                go_wp2
                go_roundw
                case rel =>
                  refine ⟨k + 1, by omega, by go_num, hob6, howF, by rw [hJ.out, if_neg (by simp), if_pos rfl]; exact congrArg Value.string (str_nil _), ?_, hb6⟩
                  intro u hu
                  rw [htk.out, List.mem_append, List.mem_singleton] at hu
                  rcases hu with hu | rfl
                  · exact hA.out u hu
                  · simp only [List.length_cons] at h20 ⊢; omega
                case measure => simp [intOf]; omega
              | cons y q =>
                have hq1' : q.length + 1 ≤ 420 := by simpa using hjnl
                go_wp2_with (at_builtin; go_must (refine wpList_append_lies _ rfl (.tmp 53) (.tmp 58) 25 rfl w.heap.size 9 j0 _ 1 16 Try.underlying25 hj jz0 jz1 jz2 rfl (by decide) u6 wtk.length (wtk.map strV) rfl (how3.alloc _) ⟨w3.heap.size, 0, none⟩ 1 1 [.string ⟨(x :: r).toArray⟩] rfl rfl (World.news_of_block (cs := #[.string ⟨(x :: r).toArray⟩]) (t := 9) (fr := (0, 0)) (heap_last _ _ _ (by simp))) (by intro u hu; simp at hu; subst hu; rfl) (by omega) (by unfold maxLen; omega) (by omega) (by simp; omega) (w3.heap.size + 1) (by simp) ?_); intro g6 cap6 w6 how6 hgrow6 _ _; have hc6 := hgrow6.cell (al (o := .cells #[.string ⟨(x :: r).toArray⟩] 9) hc4) hne6)
                have hb6 := (hb4.alloc hq4 (.cells #[.string ⟨(x :: r).toArray⟩] 9)).grown hgrow6 (by simp; omega) (fun g e => (how3.lt g e).1)
                have hob6 := (hobF.alloc (.cells #[.string ⟨(x :: r).toArray⟩] 9)).kept hgrow6 (own_ne hobF how3 (by decide))
                have howF : w6.ownsRow w.heap.size 9 1 (.slice (some ⟨g6, 0, none⟩) (wtk.length + 1) cap6) (wt l (k + 1)).length ((wt l (k + 1)).map strV) := by
                  rw [hW.out, if_neg (by simp), List.map_append, List.length_append]; exact how6
                clear how6 hgrow6 hne6
                go_wp2
                go_roundw
                case rel =>
                  refine ⟨k + 1, by omega, by go_num, hob6, howF, by rw [hJ.out]; rw [if_neg (by simp), if_neg (by simp)]; exact congrArg Value.string (by rw [str_app2]; simp), ?_, hb6⟩
                  intro u hu
                  rw [htk.out, List.mem_append, List.mem_singleton] at hu
                  rcases hu with hu | rfl
                  · exact hA.out u hu
                  · simp only [List.length_cons] at h20 ⊢; omega
                case measure => simp [intOf]; omega
    · obtain rfl : k = l.length := by omega
      rw [List.take_length] at hall
      have hcl := cb_len l 20 hall l.length
      have hcl2 : (cb l l.length).length ≤ 20 * 21 := Nat.le_trans hcl (Nat.mul_le_mul_right _ (by omega))
      have hjl := jn_len l 20 hall l.length
      have hjl2 : (jn l l.length).length ≤ 20 * 21 := Nat.le_trans hjl (Nat.mul_le_mul_right _ (by omega))
      have hwl := wt_len l l.length
      have hS := hid (cuts_split ifs.data.toList l l.length)
      have hWh := hid (cuts_whole l l.length).1
      have hrb := Rd.of_own hob
      have hrw := Rd.of_own how
      clear hcl hjl hob how hall hx
      have hz := hb.size
      have hSP := hid (show split ifs.data.toList (cb l l.length) = fin (run ifs.data.toList ⟨[], none, false⟩ (cb l l.length)) from rfl)
      have hWP := hid (show whole (cb l l.length) = (wrun ⟨[], false, false⟩ (cb l l.length)).out from rfl)
      generalize cb l l.length = cbl at *
      generalize wt l l.length = wtl at *
      generalize jn l l.length = jnl at *
      go_wp2_with fail
      refine (split_any _ cbl ifs _ hrb (by omega)).mono ?_; rintro e w1 ⟨N, v1, vs, rfl, hrows, hb1⟩
      have hR := RdR.of_rows hrows
      have hln := hrows.ln
      have hrb1 := hrb.below hb1
      have hrw1 := hrw.below hb1
      have hb2 := hb.trans (hb1.mono hz)
      have hq2 := hb2.size
      have hSL := hid (show (split ifs.data.toList cbl).map (fun x => x.map Prod.fst) = wtl by rw [hSP.out]; exact hS.out)
      have hvl : (split ifs.data.toList cbl).length = wtl.length := by rw [← hSL.out, List.length_map]
      have hse := split_each ifs.data.toList cbl
      have HVL := hid hvl
      generalize split ifs.data.toList cbl = sp at *
      clear hrows hln hb1 hrb hrw
      obtain ⟨us, hul, hru, hus⟩ := hR
      rw [hul, hvl] at hru
      obtain ⟨A2, cap2, rfl, hcap2, hx2⟩ := hru.open_
      obtain ⟨A3, cap3, rfl, hcap3, hx3⟩ := hrw1.open_
      have HUL := hid hul
      clear hul hvl hru
      have hn1 : ((wtl.length : Int) != (wtl.length : Int)) = false := by simp
      go_wp2_with fail
      have hwhl := wrun_len cbl ⟨[], false, false⟩
      refine (whole_any _ cbl _ hrb1 (by omega)).mono ?_; rintro e w2 ⟨v2, rfl, hr2, hb3⟩
      have hwl2 : (whole cbl).length ≤ 1000000 := by rw [hWP.out]; simp only [List.length_nil] at hwhl; omega
      go_wp2_with fail
      refine (plain_any v2 (whole cbl) _ hr2 (by omega)).mono ?_; rintro e w3 ⟨rfl, hb4⟩
      rw [show (whole cbl).map Prod.fst = jnl by rw [hWP.out]; exact hWh.out]
      have hbX := (hb2.trans (hb3.mono hq2)).trans (hb4.mono (Nat.le_trans hq2 hb3.size))
      have hb13 : Below w1.heap.size w1 w3 := hb3.trans (hb4.mono hb3.size)
      have hqX := hbX.size
      clear hwhl hwl2 hr2 hb3 hb4 hrb1
      go_wp2_with fail
      go_loopw [10] (fun i wr2 => ∃ m : Nat, m ≤ wtl.length ∧ i = .int .i64 m ∧ Below w3.heap.size w3 wr2) (fun i _ => wtl.length - (intOf i).toNat)
      case atStart => exact ⟨0, Nat.zero_le _, rfl, Below.refl _ _⟩
      case round =>
        obtain ⟨m, hm, rfl, hbr⟩ := hrel
        by_cases hmt : m < wtl.length
        · have hms : m < sp.length := by rw [HVL.out]; exact hmt
          have hmu : m < us.length := by rw [HUL.out]; exact hms
          rcases hx2 with hx2 | ⟨b2, off2, rfl, hc2⟩
          · rw [hx2] at hmu; simp at hmu
          · rcases hx3 with hx3 | ⟨b3, off3, rfl, hc3⟩
            · have := congrArg List.length hx3; simp at this; rw [this] at hmt; simp at hmt
            · have hb1r : Below w1.heap.size w1 wr := hb13.trans (hbr.mono hb13.size)
              have ha := (hc2.below hb1r) m us[m] (List.getElem?_eq_getElem hmu)
              have hw := (hc3.below hb1r) m (strV wtl[m]) (by simp [List.getElem?_eq_getElem hmt])
              have hra := (hus m us[m] sp[m] (List.getElem?_eq_getElem hmu) (List.getElem?_eq_getElem hms)).below hb1r
              have hln := hse sp[m] (List.getElem_mem hms)
              have heq : sp[m].map Prod.fst = wtl[m] := by
                have h1 : ((sp.map (fun x => x.map Prod.fst))[m]'(by simpa using hms)) = sp[m].map Prod.fst := List.getElem_map ..
                rw [← h1]; simp only [hSL.out]
              rw [← heq] at hw
              generalize us[m] = um at *
              generalize sp[m] = sm at *
              obtain ⟨au, cu, rfl⟩ : ∃ a c, um = .slice a sm.length c := by obtain ⟨a, c, h, _⟩ := hra; exact ⟨a, c, h⟩
              have HEQ := hid heq
              clear hus hc2 hc3 hse heq
              unfold strV at hw
              have hi0 : (0 : Int) ≤ (m : Int) := Int.natCast_nonneg _
              have hi1 : (m : Int) < (wtl.length : Int) := by omega
              have hq1r := hb1r.size
              go_wp2_with fail
              have hraD : Rd wr.drew (.slice au sm.length cu) sm.length (chs sm) := hra
              clear hra hrw1
              go_region_held3 (fun w' => w'.cell? ⟨b2, off2 + m, none⟩ = some (.slice au sm.length cu) ∧ w'.cell? ⟨b3, off3 + m, none⟩ = some (.string ⟨(sm.map Prod.fst).toArray⟩))
                (first | go_keep | (go_split_ands; refine ⟨?_, ?_⟩ <;> (refine bel_cell hby ?_; assumption)))
                (first | (go_at_call 19; refine (plain_any _ sm _ hraD (by omega)).mono ?_; rintro e wy ⟨rfl, hby⟩))
              have hbF := hbr.drew.trans (hby.mono (by simp; have := hbr.size; omega))
              clear hby hraD
              go_wp2
              go_roundw
              case rel => exact ⟨m + 1, by omega, by go_num, hbF⟩
              case measure => simp [intOf]; omega
        · have hbY := hbX.trans (hbr.mono hqX)
          go_wp2_with (go_at_call 8; refine (awake_any _).mono ?_; rintro e w4 ⟨rfl, hb4⟩)
          go_ret
          exact ⟨rfl, hbY.trans (hb4.mono hbY.size)⟩
end Go.Proofs.Ytfadbbpnhppkpaa
