/- The walk of fields.Whole (and of slices.Clip): it returns the marked bytes of the plain function, for up to 100000 bits. -/
import Derived.Test.YtfadbbpnhppkpaaW3
import Derived.Laws.StructEq
set_option linter.unusedVariables false
set_option linter.unusedSimpArgs false
namespace Go.Proofs.Ytfadbbpnhppkpaa
open Go.RowKit

structure WS where
  out : List (UInt8 × Bool)
  sm : Bool
  due : Bool
def wstep (s : WS) (b : Int × UInt8) : WS :=
  if b.1 == 4 then ⟨s.out, s.sm, s.due || s.sm⟩
  else if !byteB b.1 && !(b.1 == 3) then s
  else ⟨(if s.due then s.out ++ [(32, false)] else s.out) ++ (if byteB b.1 then [(b.2, b.1 == 1)] else []), true, false⟩
def wrun (s : WS) (l : List (Int × UInt8)) : WS := l.foldl wstep s
def whole (l : List (Int × UInt8)) : List (UInt8 × Bool) := (wrun ⟨[], false, false⟩ l).out
theorem wrun_snoc (s : WS) (l : List (Int × UInt8)) (k : Nat) (h : k < l.length) : wrun s (l.take (k + 1)) = wstep (wrun s (l.take k)) l[k] := by
  unfold wrun; rw [List.take_succ_eq_append_getElem h, List.foldl_append]; rfl
theorem wstep_len (s : WS) (b : Int × UInt8) : (wstep s b).out.length ≤ s.out.length + 2 := by
  unfold wstep; (repeat' split) <;> simp
theorem wrun_len (l : List (Int × UInt8)) : ∀ s : WS, (wrun s l).out.length ≤ s.out.length + 2 * l.length := by
  induction l with
  | nil => intro s; simp [wrun]
  | cons b r ih =>
    intro s
    have h1 := ih (wstep s b)
    have h2 := wstep_len s b
    simp only [wrun, List.foldl_cons, List.length_cons] at h1 ⊢
    omega

theorem wstep_cut (s : WS) (c : UInt8) : wstep s (4, c) = ⟨s.out, s.sm, s.due || s.sm⟩ := by unfold wstep; rw [if_pos (by simp)]
theorem wstep_byte (s : WS) (kd : Int) (c : UInt8) (h : byteB kd = true) : wstep s (kd, c) = ⟨(if s.due then s.out ++ [(32, false)] else s.out) ++ [(c, kd == 1)], true, false⟩ := by
  have h4 : (kd == 4) = false := by simp [byteB] at h ⊢; omega
  unfold wstep; rw [if_neg (by simp [h4]), if_neg (by simp [h]), if_pos h]
theorem wstep_mark (s : WS) (c : UInt8) : wstep s (3, c) = ⟨if s.due then s.out ++ [(32, false)] else s.out, true, false⟩ := by
  unfold wstep; rw [if_neg (by simp), if_neg (by simp)]; simp [byteB]
theorem wstep_none (s : WS) (kd : Int) (c : UInt8) (h : byteB kd = false) (h3 : (kd == 3) = false) (h4 : (kd == 4) = false) : wstep s (kd, c) = s := by
  unfold wstep; rw [if_neg (by simp [h4]), if_pos (by simp [h, h3])]
theorem heap_last (w : World) (o : Obj) (n : Nat) (h : w.heap.size = n) : (w.alloc o).heap[n]? = some o := by subst h; exact heap_alloc_new w o
theorem one_ch (a : Int) (q : Bool) : ∀ u ∈ [Value.int .u8 a, .bool q], u.oneCell' = true := by
  intro u hu; simp at hu; rcases hu with rfl | rfl <;> rfl

set_option maxHeartbeats 400000 in
theorem clip_any (v : Value) (l : List (UInt8 × Bool)) (w : World) (h : Rd w v l.length (chs l)) (hl : l.length ≤ 10000000) :
    Calls Try.prog 28 #[v] w fun e w' => ∃ v', e = .returned v' ∧ Rd w v' l.length (chs l) ∧ w = w' := by
  obtain ⟨A, cap, rfl, hcap, hx⟩ := h
  go_enter Try.func28, Try.ntmps28
  go_wp2
  go_ret
  exact ⟨_, rfl, ⟨A, l.length, rfl, Nat.le_refl _, hx⟩, rfl⟩
set_option maxRecDepth 100000 in
set_option maxHeartbeats 1600000 in
theorem whole_any (v : Value) (l : List (Int × UInt8)) (w : World) (h : Rd w v l.length (bts l)) (hl : l.length ≤ 100000) :
    Calls Try.prog 17 #[v] w fun e w' => ∃ v', e = .returned v' ∧ Rd w' v' (whole l).length (chs (whole l)) ∧ Below w.heap.size w w' := by
  obtain ⟨A, cap, rfl, hcap, hx⟩ := h.open_
  clear h
  obtain ⟨j0, hj, jz0, jz1, jz2⟩ := info_parts Try.info49
  go_enter Try.func17, Try.ntmps17
  go_wp2
  go_loopw [3, 4, 5, 10] (fun o sm due i wr => ∃ k : Nat, k ≤ l.length ∧ i = .int .i64 k ∧ sm = .bool (wrun ⟨[], false, false⟩ (l.take k)).sm ∧ due = .bool (wrun ⟨[], false, false⟩ (l.take k)).due ∧
    wr.ownsRow w.heap.size 49 2 o (wrun ⟨[], false, false⟩ (l.take k)).out.length (chs (wrun ⟨[], false, false⟩ (l.take k)).out) ∧ Below w.heap.size w wr) (fun _ _ _ i _ => l.length - (intOf i).toNat)
  case atStart => exact ⟨0, Nat.zero_le _, rfl, rfl, rfl, World.ownsRow_nil _ _ _ _, Below.refl _ _⟩
  case round =>
    obtain ⟨k, hk, rfl, rfl, rfl, hown, hb⟩ := hrel
    by_cases hlt : k < l.length
    · rcases hx with hx | ⟨b, off, rfl, hc⟩
      · exact (bts_ne hlt hx).elim
      · have hbw := hc.lt (bts_pos (by omega))
        obtain ⟨hc1, hc2⟩ := (hc.below hb).bt k hlt
        clear hc
        have hsn := wrun_snoc ⟨[], false, false⟩ l k hlt
        have hol := wrun_len (l.take k) ⟨[], false, false⟩
        have hmin : (l.take k).length ≤ k := List.length_take_le _ _
        have hA : (wrun ⟨[], false, false⟩ (l.take k)).out.length ≤ 1000000 := by simp only [List.length_nil] at hol; omega
        clear hol hmin
        generalize wrun ⟨[], false, false⟩ (l.take k) = st at *
        obtain ⟨kd, c, hkc⟩ : ∃ kd c, l[k] = (kd, c) := ⟨_, _, rfl⟩
        rw [hkc] at hc1 hc2 hsn
        have HS := hid hsn
        clear hsn hkc
        have hsz := hb.size
        obtain ⟨out, sm, due⟩ := st
        dsimp only at hc1 hc2 hown hA
        have hbA := hb.alloc hsz (.cells #[.int .i64 kd, .int .u8 (c.toNat : Int)] 42)
        have hOB : ∀ g, u3.ownBlock = some g → w.heap.size ≤ g ∧ g < wr.heap.size := fun g e => hown.lt g e
        have hownA := hown.alloc (.cells #[.int .i64 kd, .int .u8 (c.toNat : Int)] 42)
        by_cases h4 : kd = 4
        · subst h4
          have hstep := hid (wstep_cut ⟨out, sm, due⟩ c)
          clear hown hb
          cases due
          all_goals
            go_wp2
            go_roundw
            case rel => exact ⟨k + 1, by omega, by go_num, by rw [HS.out, hstep.out], by rw [HS.out, hstep.out]; rfl, by rw [HS.out, hstep.out]; exact hownA, hbA⟩
            case measure => simp [intOf]; omega
        · have b4 : (kd == 4) = false := by simpa using h4
          clear h4
          by_cases hby : byteB kd = true
          · have hstep := hid (wstep_byte ⟨out, sm, due⟩ kd c hby)
            have hbt : (decide (0 ≤ kd) && decide (kd ≤ 2)) = true := hby
            clear hby hown hb
            go_wp2_with fail
            refine (byted_any kd _ _).mono ?_; rintro e wx ⟨rfl, rfl⟩
            rw [hbt]
            have hownB := hownA.alloc (.cells #[.int .i64 kd, .int .u8 (c.toNat : Int)] 42)
            have hbB := hbA.alloc (by simp; omega) (.cells #[.int .i64 kd, .int .u8 (c.toNat : Int)] 42)
            clear hownA hbA
            have t0 : ((wr.alloc (.cells #[.int .i64 kd, .int .u8 (c.toNat : Int)] 42)).alloc (.cells #[.int .i64 kd, .int .u8 (c.toNat : Int)] 42)).cell? ⟨wr.heap.size, 0, none⟩ = some (.int .i64 kd) := al (World.cell?_alloc_mark _ _ _ _ _)
            have t1 : ((wr.alloc (.cells #[.int .i64 kd, .int .u8 (c.toNat : Int)] 42)).alloc (.cells #[.int .i64 kd, .int .u8 (c.toNat : Int)] 42)).cell? ⟨wr.heap.size, 1, none⟩ = some (.int .u8 (c.toNat : Int)) := al (World.cell?_alloc_mark _ _ _ _ _)
            cases due with
            | true =>
              go_wp2_with (at_builtin; refine wpList_append_lies _ rfl (.tmp 32) (.tmp 34) 40 rfl w.heap.size 49 j0 _ 2 2 Try.underlying40 hj jz0 jz1 jz2 rfl (by decide) u3 out.length (chs out) rfl (hownB.alloc _) ⟨wr.heap.size + 1 + 1, 0, none⟩ 1 1 [.int .u8 32, .bool false] rfl rfl (World.news_of_block (cs := #[.int .u8 32, .bool false]) (t := 49) (fr := (0, 0)) (heap_last _ _ _ (by simp))) (one_ch _ _) (by omega) (by unfold maxLen; omega) (by omega) (by simp; omega) (wr.heap.size + 1 + 1 + 1) (by simp) ?_)
              intro g1 cap1 w1 hown1 hgrow1 _ _
              have hne : some wr.heap.size ≠ u3.ownBlock := fun e => by have := hOB _ e.symm; omega
              have t0' := hgrow1.cell (al (o := .cells #[.int .u8 32, .bool false] 49) t0) hne
              have t1' := hgrow1.cell (al (o := .cells #[.int .u8 32, .bool false] 49) t1) hne
              have hb1 := (hbB.alloc (by simp; omega) (.cells #[.int .u8 32, .bool false] 49)).grown hgrow1 (by simp; omega) (fun g e => (hOB g e).1)
              have hz1 := hb1.size
              clear hownB hbB hgrow1 t0 t1 hne
              go_wp2_with fail
              refine (byted_any kd _ _).mono ?_; rintro e wx ⟨rfl, rfl⟩
              rw [hbt]
              have t2 := al (o := .cells #[.int .i64 kd, .int .u8 (c.toNat : Int)] 42) t0'
              have t3 := al (o := .cells #[.int .i64 kd, .int .u8 (c.toNat : Int)] 42) t1'
              go_wp2_with fail
              refine (char_any kd _ _).mono ?_; rintro e wx ⟨rfl, rfl⟩
              go_wp2_with (at_builtin; refine wpList_append_lies _ rfl (.tmp 38) (.tmp 41) 40 rfl w.heap.size 49 j0 _ 2 2 Try.underlying40 hj jz0 jz1 jz2 rfl (by decide) (.slice (some ⟨g1, 0, none⟩) (out.length + 1) cap1) (out.length + 1) (chs out ++ [.int .u8 32, .bool false]) rfl ((((hown1.alloc _).alloc _).alloc _).alloc _) ⟨w1.heap.size + 1 + 1 + 1, 0, none⟩ 1 1 [.int .u8 (c.toNat : Int), .bool (kd == 1)] rfl rfl (World.news_of_block (cs := #[.int .u8 (c.toNat : Int), .bool (kd == 1)]) (t := 49) (fr := (0, 0)) (heap_last _ _ _ (by simp))) (one_ch _ _) (by omega) (by unfold maxLen; omega) (by omega) (by simp; omega) (w1.heap.size + 1 + 1 + 1 + 1) (by simp) ?_)
              intro g2 cap2 w2 hown2 hgrow2 _ _
              have hbF := ((((hb1.alloc hz1 _).alloc (by simp; omega) _).alloc (by simp; omega) _).alloc (by simp; omega) _).grown hgrow2 (by simp; omega) (fun g e => (hown1.lt g e).1)
              have hfin : w2.ownsRow w.heap.size 49 2 (.slice (some ⟨g2, 0, none⟩) (out.length + 1 + 1) cap2) ((out ++ [((32 : UInt8), false)]) ++ [(c, kd == 1)]).length (chs ((out ++ [((32 : UInt8), false)]) ++ [(c, kd == 1)])) := by
                rw [chs_append, chs_append]; simpa [chs] using hown2
              clear hown1 hown2 hgrow2 t0' t1' t2 t3 hb1
              go_wp2
              go_roundw
              case rel => exact ⟨k + 1, by omega, by go_num, by rw [HS.out, hstep.out], by rw [HS.out, hstep.out], by rw [HS.out, hstep.out]; exact hfin, hbF⟩
              case measure => simp [intOf]; omega
            | false =>
              go_wp2_with fail
              refine (byted_any kd _ _).mono ?_; rintro e wx ⟨rfl, rfl⟩
              rw [hbt]
              have t2 := al (o := .cells #[.int .i64 kd, .int .u8 (c.toNat : Int)] 42) t0
              have t3 := al (o := .cells #[.int .i64 kd, .int .u8 (c.toNat : Int)] 42) t1
              go_wp2_with fail
              refine (char_any kd _ _).mono ?_; rintro e wx ⟨rfl, rfl⟩
              go_wp2_with (at_builtin; refine wpList_append_lies _ rfl (.tmp 38) (.tmp 41) 40 rfl w.heap.size 49 j0 _ 2 2 Try.underlying40 hj jz0 jz1 jz2 rfl (by decide) u3 out.length (chs out) rfl ((((hownB.alloc _).alloc _).alloc _).alloc _) ⟨wr.heap.size + 1 + 1 + 1 + 1 + 1, 0, none⟩ 1 1 [.int .u8 (c.toNat : Int), .bool (kd == 1)] rfl rfl (World.news_of_block (cs := #[.int .u8 (c.toNat : Int), .bool (kd == 1)]) (t := 49) (fr := (0, 0)) (heap_last _ _ _ (by simp))) (one_ch _ _) (by omega) (by unfold maxLen; omega) (by omega) (by simp; omega) (wr.heap.size + 1 + 1 + 1 + 1 + 1 + 1) (by simp) ?_)
              intro g2 cap2 w2 hown2 hgrow2 _ _
              have hbF := ((((hbB.alloc (by simp; omega) _).alloc (by simp; omega) _).alloc (by simp; omega) _).alloc (by simp; omega) _).grown hgrow2 (by simp; omega) (fun g e => (hOB g e).1)
              have hfin : w2.ownsRow w.heap.size 49 2 (.slice (some ⟨g2, 0, none⟩) (out.length + 1) cap2) (out ++ [(c, kd == 1)]).length (chs (out ++ [(c, kd == 1)])) := by
                rw [chs_append]; simpa [chs] using hown2
              clear hownB hown2 hgrow2 t0 t1 t2 t3 hbB
              go_wp2
              go_roundw
              case rel => exact ⟨k + 1, by omega, by go_num, by rw [HS.out, hstep.out], by rw [HS.out, hstep.out], by rw [HS.out, hstep.out]; exact hfin, hbF⟩
              case measure => simp [intOf]; omega
          · have hbf : byteB kd = false := by simpa using hby
            clear hby
            by_cases h3 : kd = 3
            · subst h3
              have hstep := hid (wstep_mark ⟨out, sm, due⟩ c)
              clear hown hb hbf
              go_wp2_with fail
              refine (byted_any 3 _ _).mono ?_; rintro e wx ⟨rfl, rfl⟩
              have hownB := hownA.alloc (.cells #[.int .i64 3, .int .u8 (c.toNat : Int)] 42)
              have hbB := hbA.alloc (by simp; omega) (.cells #[.int .i64 3, .int .u8 (c.toNat : Int)] 42)
              clear hownA hbA
              have t0 : ((wr.alloc (.cells #[.int .i64 3, .int .u8 (c.toNat : Int)] 42)).alloc (.cells #[.int .i64 3, .int .u8 (c.toNat : Int)] 42)).cell? ⟨wr.heap.size, 0, none⟩ = some (.int .i64 3) := al (World.cell?_alloc_mark _ _ _ _ _)
              have t1 : ((wr.alloc (.cells #[.int .i64 3, .int .u8 (c.toNat : Int)] 42)).alloc (.cells #[.int .i64 3, .int .u8 (c.toNat : Int)] 42)).cell? ⟨wr.heap.size, 1, none⟩ = some (.int .u8 (c.toNat : Int)) := al (World.cell?_alloc_mark _ _ _ _ _)
              cases due with
              | true =>
                go_wp2_with (at_builtin; refine wpList_append_lies _ rfl (.tmp 32) (.tmp 34) 40 rfl w.heap.size 49 j0 _ 2 2 Try.underlying40 hj jz0 jz1 jz2 rfl (by decide) u3 out.length (chs out) rfl (hownB.alloc _) ⟨wr.heap.size + 1 + 1, 0, none⟩ 1 1 [.int .u8 32, .bool false] rfl rfl (World.news_of_block (cs := #[.int .u8 32, .bool false]) (t := 49) (fr := (0, 0)) (heap_last _ _ _ (by simp))) (one_ch _ _) (by omega) (by unfold maxLen; omega) (by omega) (by simp; omega) (wr.heap.size + 1 + 1 + 1) (by simp) ?_)
                intro g1 cap1 w1 hown1 hgrow1 _ _
                have hne : some wr.heap.size ≠ u3.ownBlock := fun e => by have := hOB _ e.symm; omega
                have t0' := hgrow1.cell (al (o := .cells #[.int .u8 32, .bool false] 49) t0) hne
                have t1' := hgrow1.cell (al (o := .cells #[.int .u8 32, .bool false] 49) t1) hne
                have hb1 := (hbB.alloc (by simp; omega) (.cells #[.int .u8 32, .bool false] 49)).grown hgrow1 (by simp; omega) (fun g e => (hOB g e).1)
                have hbF := hb1.alloc hb1.size (.cells #[.int .i64 3, .int .u8 (c.toNat : Int)] 42)
                have hfin : (w1.alloc (.cells #[.int .i64 3, .int .u8 (c.toNat : Int)] 42)).ownsRow w.heap.size 49 2 (.slice (some ⟨g1, 0, none⟩) (out.length + 1) cap1) (out ++ [((32 : UInt8), false)]).length (chs (out ++ [((32 : UInt8), false)])) := by
                  rw [chs_append]; simpa [chs] using hown1.alloc _
                clear hownB hbB hgrow1 hown1 t0 t1 hne hb1
                go_wp2_with fail
                refine (byted_any 3 _ _).mono ?_; rintro e wx ⟨rfl, rfl⟩
                go_wp2
                go_roundw
                case rel => exact ⟨k + 1, by omega, by go_num, by rw [HS.out, hstep.out], by rw [HS.out, hstep.out], by rw [HS.out, hstep.out]; exact hfin, hbF⟩
                case measure => simp [intOf]; omega
              | false =>
                have hfin := hownB.alloc (.cells #[.int .i64 3, .int .u8 (c.toNat : Int)] 42)
                have hbF := hbB.alloc (by simp; omega) (.cells #[.int .i64 3, .int .u8 (c.toNat : Int)] 42)
                clear hownB hbB
                go_wp2_with fail
                refine (byted_any 3 _ _).mono ?_; rintro e wx ⟨rfl, rfl⟩
                go_wp2
                go_roundw
                case rel => exact ⟨k + 1, by omega, by go_num, by rw [HS.out, hstep.out], by rw [HS.out, hstep.out], by rw [HS.out, hstep.out]; exact hfin, hbF⟩
                case measure => simp [intOf]; omega
            · have b3 : (kd == 3) = false := by simpa using h3
              have b3' : (kd != 3) = true := by simpa using h3
              have hstep := hid (wstep_none ⟨out, sm, due⟩ kd c hbf b3 b4)
              have hbt : (decide (0 ≤ kd) && decide (kd ≤ 2)) = false := hbf
              clear hown hb hbf h3
              have hfin := hownA.alloc (.cells #[.int .i64 kd, .int .u8 (c.toNat : Int)] 42)
              have hbF := hbA.alloc (by simp; omega) (.cells #[.int .i64 kd, .int .u8 (c.toNat : Int)] 42)
              clear hownA hbA
              go_wp2_with fail
              refine (byted_any kd _ _).mono ?_; rintro e wx ⟨rfl, rfl⟩
              rw [hbt]
              have t0 : ((wr.alloc (.cells #[.int .i64 kd, .int .u8 (c.toNat : Int)] 42)).alloc (.cells #[.int .i64 kd, .int .u8 (c.toNat : Int)] 42)).cell? ⟨wr.heap.size, 0, none⟩ = some (.int .i64 kd) := al (World.cell?_alloc_mark _ _ _ _ _)
              go_wp2
              go_roundw
              case rel => exact ⟨k + 1, by omega, by go_num, by rw [HS.out, hstep.out], by rw [HS.out, hstep.out], by rw [HS.out, hstep.out]; exact hfin, hbF⟩
              case measure => simp [intOf]; omega
    · obtain rfl : k = l.length := by omega
      rw [List.take_length] at hown
      have hr := Rd.of_own hown
      have hol := wrun_len l ⟨[], false, false⟩
      have hA : (wrun ⟨[], false, false⟩ l).out.length ≤ 10000000 := by simp only [List.length_nil] at hol; omega
      clear hol
      have hWH := hid (show whole l = (wrun ⟨[], false, false⟩ l).out from rfl)
      generalize (wrun ⟨[], false, false⟩ l).out = out at *
      clear hown
      obtain ⟨a, c', rfl, hcc, hxx⟩ := hr
      go_wp2_with fail
      refine (clip_any _ out _ ⟨a, c', rfl, hcc, hxx⟩ hA).mono ?_; rintro e w1 ⟨v1, rfl, hr1, rfl⟩
      go_wp2
      go_ret
      exact ⟨v1, rfl, by rw [hWH.out]; exact hr1, hb⟩
end Go.Proofs.Ytfadbbpnhppkpaa
