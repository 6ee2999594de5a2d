/- The walks of marks.Plain, globs.named, globs.thing, globs.group, for texts of up to a million bytes. -/
import Derived.Test.YthnmdhcgnimdfaaDoorG1
set_option linter.unusedVariables false
set_option linter.unusedSimpArgs false
namespace Go.Proofs.YthnmdhcgnimdfaaDoor
open Go.RowKit
attribute [local go_sem ↓] Go.wp_at_zero Go.wp_at_succ
theorem Tryd.info5 : (Tryd.prog.info? 5).map (fun i => (i.zero, i.size, i.bytes)) = some (some (.int .u8 0), 1, 1) := by kernel_rfl
def bys (l : List UInt8) : List Value := l.map fun c => .int .u8 (c.toNat : Int)
set_option maxHeartbeats 400000 in
theorem plain_any (v : Value) (l : List (UInt8 × Bool)) (w : World) (h : Rd w v l.length (chs l)) (hl : l.length ≤ 1000000) :
    Calls Tryd.prog 20 #[v] w fun e w' => e = .returned (.string ⟨(l.map Prod.fst).toArray⟩) ∧ Below w.heap.size w w' := by
  obtain ⟨A, cap, rfl, hcap, hx⟩ := h.open_
  clear h
  obtain ⟨i0, hi, hz0, hz1, hz2⟩ := info_parts Tryd.info5
  go_enter Tryd.func20, Tryd.ntmps20
  go_wp2_with (at_make; refine wpList_make_full _ rfl _ _ 42 rfl w.heap.size 5 i0 _ 1 Tryd.underlying42 hi hz0 hz1 .i64 .i64 l.length l.length l.length rfl rfl rfl rfl (by rw [hz2]; omega) (by unfold maxLen; omega) (by omega) ?_; intro w1 hown hgrow)
  go_loopw [11] (fun i wr => ∃ (k : Nat) (zs : List Value), k ≤ l.length ∧ i = .int .i64 k ∧ zs.length = (l.length - k) ∧ wr.ownsRow w.heap.size 5 1 (.slice (some ⟨w.heap.size, 0, none⟩) l.length l.length) l.length (bys ((l.take k).map Prod.fst) ++ zs) ∧ Below w.heap.size w wr) (fun i _ => l.length - (intOf i).toNat)
  case atStart => 
    exact ⟨0, _, Nat.zero_le _, rfl, by have := hown.1; simpa using this, hown, (Below.refl _ _).grown hgrow (Nat.le_refl _) (by simp)⟩
  case round =>
    obtain ⟨k, zs, hk, rfl, hzl, hown, hb⟩ := hrel
    by_cases hlt : k < l.length
    · rcases hx with hx | ⟨b, off, rfl, hc⟩
      · exact (chs_ne hlt hx).elim
      · match zs, hzl with
        | [], hzl => simp at hzl; omega
        | a :: zs, hzl =>
          have hbw : b < w.heap.size := hc.lt (chs_pos (by omega))
          obtain ⟨hc1, hc2⟩ := (hc.below hb).ch k hlt
          clear hc
          have hf1 := hown.frozenAt k
          have hsz := hb.size
          have hg1 := (hown.lt _ rfl).2
          have ho2 := (own_set1 hown k (by simp [bys]; omega) (.int .u8 (l[k].1.toNat : Int))).alloc (.cells #[.int .u8 (l[k].1.toNat : Int), .bool l[k].2] 55)
          have hcc := hown.cellAt k (by omega)
          have hl1 : (bys ((l.take k).map Prod.fst)).length = k := by simp [bys]; omega
          rw [List.getElem?_append_right (by omega), hl1] at hcc
          simp at hcc
          clear hown hl1
          go_wp2
          go_roundw
          case rel =>
            refine ⟨k + 1, zs, by omega, by go_num, by simp at hzl; omega, ?_, (hb.setCell (Nat.le_refl _) _).alloc (by simp; omega) _⟩
            rw [List.take_succ_eq_append_getElem hlt, List.map_append]
            simpa [bys] using ho2
          case measure => simp [intOf]; omega
    · obtain rfl : k = l.length := by omega
      have hz : zs = [] := List.eq_nil_of_length_eq_zero (by simpa using hzl)
      subst hz
      rw [List.append_nil, List.take_length] at hown
      have hcells : ∀ j (hj : j < (l.map Prod.fst).length), wr.cell? ((⟨w.heap.size, 0, none⟩ : Addr).add j) = some (.int .u8 ((l.map Prod.fst)[j].toNat : Int)) := fun j hj => by
        rw [Addr.add_lit, Nat.zero_add, hown.cellAt j (by simpa using hj)]
        simp [bys, List.getElem?_eq_getElem (show j < l.length by simpa using hj)]
      have hcv := run_convert_bytes_back (P := Tryd.prog) wr 42 9 5 ⟨w.heap.size, 0, none⟩ l.length (l.map Prod.fst) Tryd.underlying42 Tryd.underlying5 Tryd.underlying9 hcells
      rw [List.length_map] at hcv
      clear hcells hown hzl hx
      go_wp2
      go_ret
      exact ⟨rfl, hb⟩
theorem sz55 : ∀ w, (sizeOf 55).run Tryd.prog w = .ok 2 w := Tryd.sizeOf55
def NamedPost (t : List Ch) (w : World) (e : Ending) (w' : World) : Prop :=
  Below w.heap.size w w' ∧ ((namedB t = none ∧ e = .returned (.tuple #[.string ⟨#[]⟩, .int .i64 0, .bool false])) ∨
   ∃ nm n, namedB t = some (nm, n) ∧ e = .returned (.tuple #[.string ⟨nm.toArray⟩, .int .i64 (n : Nat), .bool true]))
theorem low_split (t : List Ch) (k : Nat) (h : ∀ j (hj : j < t.length), j < k → low t[j] = true) (hk : k ≤ t.length) (hno : ∀ hj : k < t.length, low t[k] = false) : lowN t = k := by
  unfold lowN
  induction t generalizing k with
  | nil => simp at hk; simp [hk]
  | cons c r ih =>
    cases k with
    | zero => have := hno (by simp); simp at this; simp [this]
    | succ k =>
      have h0 := h 0 (by simp) (by omega)
      simp at h0
      rw [List.takeWhile_cons_of_pos h0, List.length_cons, ih k (fun j hj hjk => h (j + 1) (by simpa using hj) (by omega)) (by simpa using hk) (fun hj => hno (by simpa using hj))]
set_option maxRecDepth 100000 in
set_option maxHeartbeats 3000000 in
theorem named_any (v : Value) (t : List Ch) (w : World) (h : Rd w v t.length (chs t)) (hl : t.length ≤ 1000000) :
    Calls Tryd.prog 74 #[v] w (NamedPost t w) := by
  have HR := hid h
  obtain ⟨A, cap, rfl, hcap, hx⟩ := h.open_
  clear h
  cases hb : bareB t [91, 58] with
  | false =>
    go_enter Tryd.func74, Tryd.ntmps74
    go_wp2_with fail
    refine (bare_any _ t ⟨#[91, 58]⟩ _ HR.out hl (by decide)).mono ?_; rintro e w1 ⟨rfl, hb1⟩
    rw [hb]
    go_wp2
    go_ret3
    exact ⟨hb1, .inl ⟨by simp [namedB, hb], rfl⟩⟩
  | true =>
    have h2 : 2 ≤ t.length := by
      have := (bareB_iff t [91, 58]).1 hb 1 (by decide)
      rcases Nat.lt_or_ge 1 t.length with h | h
      · omega
      · rw [List.getElem?_eq_none h] at this; cases this
    have HB := hid hb
    go_enter Tryd.func74, Tryd.ntmps74
    go_wp2_with fail
    refine (bare_any _ t ⟨#[91, 58]⟩ _ HR.out hl (by decide)).mono ?_; rintro e w1 ⟨rfl, hb1⟩
    rw [hb]
    clear hb
    go_wp2
    go_loop [5] (fun i => ∃ k : Nat, 2 ≤ k ∧ k ≤ t.length ∧ i = .int .i64 k ∧ Hid (∀ j (h : j < (t.drop 2).length), j < k - 2 → low (t.drop 2)[j] = true)) (fun i => t.length - (intOf i).toNat)
    case atStart => exact ⟨2, Nat.le_refl _, h2, rfl, hid (fun j h h0 => by omega)⟩
    case round =>
      obtain ⟨k, hk2, hk, rfl, HK⟩ := hrel
      have hor : (∃ c : Ch, t[k]? = some c ∧ low c = true ∧ c.2 = false ∧ 97 ≤ c.1.toNat ∧ c.1.toNat ≤ 122) ∨ (∃ c : Ch, t[k]? = some c ∧ low c = false ∧ (c.2 = true ∨ (c.2 = false ∧ c.1.toNat < 97) ∨ (c.2 = false ∧ 97 ≤ c.1.toNat ∧ 122 < c.1.toNat))) ∨ k = t.length := by
        by_cases hlt : k < t.length
        · rw [List.getElem?_eq_getElem hlt]
          generalize t[k] = c at *
          have HL : low c = (!c.2 && decide (97 ≤ c.1.toNat) && decide (c.1.toNat ≤ 122)) := rfl
          cases hl : low c
          · refine .inr (.inl ⟨c, rfl, hl, ?_⟩)
            rw [hl] at HL
            cases hq : c.2
            · rw [hq] at HL; simp at HL
              by_cases h97 : c.1.toNat < 97
              · exact .inr (.inl ⟨rfl, h97⟩)
              · exact .inr (.inr ⟨rfl, by omega, by omega⟩)
            · exact .inl rfl
          · rw [hl] at HL
            simp at HL
            exact .inl ⟨c, rfl, hl, HL.1.1, HL.1.2, HL.2⟩
        · exact .inr (.inr (by omega))
      have hcell : ∀ c, t[k]? = some c → k < t.length ∧ ∃ b off, A = some ⟨b, off, none⟩ ∧ w1.cell? ⟨b, off + k * 2, none⟩ = some (.int .u8 (c.1.toNat : Int)) ∧ w1.cell? ⟨b, off + k * 2 + 1, none⟩ = some (.bool c.2) := fun c hc0 => by
        obtain ⟨hlt, rfl⟩ := List.getElem?_eq_some_iff.1 hc0
        rcases hx with hx | ⟨b, off, rfl, hc⟩
        · exact (chs_ne (k := k) (by omega) hx).elim
        · obtain ⟨c1, c2⟩ := (hc.below hb1).ch k (by omega)
          exact ⟨hlt, b, off, rfl, c1, c2⟩
      clear hx
      rcases hor with ⟨c, hc0, hlow, hq, hx0, hx1⟩ | hor
      · obtain ⟨hlt, b, off, rfl, c1, c2⟩ := hcell c hc0
        clear hcell
        have HG : Hid (∀ h : k - 2 < (t.drop 2).length, (t.drop 2)[k - 2] = c) := hid (fun h => by
          rw [List.getElem_drop]; apply Option.some_inj.1; rw [← hc0, List.getElem?_eq_getElem hlt]; congr 2; omega)
        have HW := hid hlow
        rw [hq] at c2
        clear hq hc0 hlow
        go_wp2
        go_round
        case rel =>
          refine ⟨k + 1, by omega, by omega, by go_num, hid (fun j h1 h2 => ?_)⟩
          by_cases hj : j < k - 2
          · exact HK.out j h1 hj
          · obtain rfl : j = k - 2 := by omega
            rw [HG.out h1]; exact HW.out
        case measure => simp [intOf]; omega
      · have hlN : lowN (t.drop 2) = k - 2 := low_split _ _ HK.out (by simp; omega) (fun hj => by
          have e : t[k]? = some ((t.drop 2)[k - 2]) := by rw [← List.getElem?_eq_getElem hj, List.getElem?_drop]; congr 1; omega
          rcases hor with ⟨c, h, h', _⟩ | rfl
          · rw [e] at h; injection h with h; rw [h]; exact h'
          · simp at hj)
        have HN := hid hlN
        clear hlN HK
        have hcut := run_cut (P := Tryd.prog) 22 55 Tryd.underlying22 2 sz55 A t.length cap k hk
        have hcut2 : ∀ w, (Instr.slice 22 (.slice A t.length cap) (some (.int .i64 2)) (some (.int .i64 (k : Int))) none).run Tryd.prog w = .ok (.slice (cutA A cap 2 2) (k - 2) (cap - 2)) w := run_cut2 (P := Tryd.prog) 22 55 Tryd.underlying22 2 sz55 A t.length cap 2 k hk2 (by omega)
        have HC := hid ((HR.out.below hb1).chs_cut k hk)
        have HC2 := hid ((HR.out.below hb1).chs_mid 2 k hk2 hk)
        have hdl : (t.drop k).length ≤ 1000000 := by rw [List.length_drop]; omega
        have hml : ((t.take k).drop 2).length ≤ 1000000 := by rw [List.length_drop, List.length_take]; omega
        by_cases hkk : k = 2
        · have hke : ((k : Int) == 2) = true := by simp; omega
          have hfin : NamedPost t w (.returned (.tuple #[.string ⟨#[]⟩, .int .i64 0, .bool false])) w1 := ⟨hb1, .inl ⟨by rw [namedB, if_pos HB.out, HN.out, if_pos (by omega)], rfl⟩⟩
          clear hkk HB HN hcut hcut2
          rcases hor with ⟨c, hc0, _, hcs⟩ | hend
          · obtain ⟨hlt, b, off, rfl, c1, c2⟩ := hcell c hc0
            clear hcell hc0
            rcases hcs with hq | ⟨hq, hx1⟩ | ⟨hq, hx0, hx1⟩
            all_goals
              rw [hq] at c2
              clear hq
              go_wp2_with fail
              go_ret3
              exact hfin
          · have hge : decide (k < t.length) = false := by simp; omega
            clear hcell hend
            go_wp2_with fail
            go_ret3
            exact hfin
        · have hke : ((k : Int) == 2) = false := by simp; omega
          have hkk : ¬ k - 2 = 0 := by omega
          cases hbb : bareB (t.drop k) [58, 93]
          have HBB := hid hbb
          clear hbb
          rcases hor with ⟨c, hc0, _, hcs⟩ | hend
          · obtain ⟨hlt, b, off, rfl, c1, c2⟩ := hcell c hc0
            clear hcell hc0
            rcases hcs with hq | ⟨hq, hx1⟩ | ⟨hq, hx0, hx1⟩
            all_goals
              rw [hq] at c2
              clear hq
              go_wp2_with fail
              ((with_reducible refine (bare_any _ (t.drop k) ⟨#[58, 93]⟩ _ HC.out hdl (by decide)).mono ?_); rintro e w2 ⟨rfl, hb2⟩)
              rw [HBB.out]
              have hB2 := hb1.trans (hb2.mono hb1.size)
              clear hb1
              go_wp2_with fail
              go_ret3
              exact ⟨hB2, .inl ⟨by rw [namedB, if_pos HB.out, HN.out, if_neg hkk, show 2 + (k - 2) = k by omega, if_neg (by rw [HBB.out]; decide)], rfl⟩⟩
          · have hge : decide (k < t.length) = false := by simp; omega
            clear hcell hend
            go_wp2_with fail
            ((with_reducible refine (bare_any _ (t.drop k) ⟨#[58, 93]⟩ _ HC.out hdl (by decide)).mono ?_); rintro e w2 ⟨rfl, hb2⟩)
            rw [HBB.out]
            have hB2 := hb1.trans (hb2.mono hb1.size)
            clear hb1
            go_wp2_with fail
            go_ret3
            exact ⟨hB2, .inl ⟨by rw [namedB, if_pos HB.out, HN.out, if_neg hkk, show 2 + (k - 2) = k by omega, if_neg (by rw [HBB.out]; decide)], rfl⟩⟩
          have HBB := hid hbb
          clear hbb
          rcases hor with ⟨c, hc0, _, hcs⟩ | hend
          · obtain ⟨hlt, b, off, rfl, c1, c2⟩ := hcell c hc0
            clear hcell hc0
            rcases hcs with hq | ⟨hq, hx1⟩ | ⟨hq, hx0, hx1⟩
            all_goals
              rw [hq] at c2
              clear hq
              go_wp2_with fail
              ((with_reducible refine (bare_any _ (t.drop k) ⟨#[58, 93]⟩ _ HC.out hdl (by decide)).mono ?_); rintro e w2 ⟨rfl, hb2⟩)
              rw [HBB.out]
              have hB2 := hb1.trans (hb2.mono hb1.size)
              have HC3 := hid (HC2.out.below hb2)
              clear hb1
              go_wp2_with fail
              ((with_reducible refine (plain_any _ ((t.take k).drop 2) _ HC3.out hml).mono ?_); rintro e w3 ⟨rfl, hb3⟩)
              have hB3 := hB2.trans (hb3.mono hB2.size)
              go_wp2_with fail
              go_ret3
              exact ⟨hB3, .inr ⟨_, k + 2, by rw [namedB, if_pos HB.out, HN.out, if_neg hkk, show 2 + (k - 2) = k by omega, if_pos HBB.out], by simp⟩⟩
          · have hge : decide (k < t.length) = false := by simp; omega
            clear hcell hend
            go_wp2_with fail
            ((with_reducible refine (bare_any _ (t.drop k) ⟨#[58, 93]⟩ _ HC.out hdl (by decide)).mono ?_); rintro e w2 ⟨rfl, hb2⟩)
            rw [HBB.out]
            have hB2 := hb1.trans (hb2.mono hb1.size)
            have HC3 := hid (HC2.out.below hb2)
            clear hb1
            go_wp2_with fail
            ((with_reducible refine (plain_any _ ((t.take k).drop 2) _ HC3.out hml).mono ?_); rintro e w3 ⟨rfl, hb3⟩)
            have hB3 := hB2.trans (hb3.mono hB2.size)
            go_wp2_with fail
            go_ret3
            exact ⟨hB3, .inr ⟨_, k + 2, by rw [namedB, if_pos HB.out, HN.out, if_neg hkk, show 2 + (k - 2) = k by omega, if_pos HBB.out], by simp⟩⟩
end Go.Proofs.YthnmdhcgnimdfaaDoor
