/- The walks of slices.Index and slices.Clone at marked bytes, marks.Find. -/
import Derived.Test.YthnmdhcgnimdfaaDoorG13
set_option linter.unusedVariables false
set_option linter.unusedSimpArgs false
namespace Go.Proofs.YthnmdhcgnimdfaaDoor
open Go.RowKit
attribute [local go_sem ↓] Go.wp_at_zero Go.wp_at_succ
/-- the place of the first bare byte; none: -1 -/
def findL (t : List Ch) (b : UInt8) : Int := match t.findIdx? (· == (b, false)) with | some i => (i : Int) | none => -1
theorem findL_yes {t : List Ch} {b : UInt8} {k : Nat} (hk : k < t.length) (h : t[k] = (b, false)) (hb : ∀ j (hj : j < t.length), j < k → t[j] ≠ (b, false)) : findL t b = k := by
  have : t.findIdx? (· == (b, false)) = some k := by
    rw [List.findIdx?_eq_some_iff_getElem]
    exact ⟨hk, by simp [h], fun j hj => by simpa using hb j (by omega) hj⟩
  unfold findL; rw [this]
theorem findL_no {t : List Ch} {b : UInt8} (hb : ∀ j (hj : j < t.length), t[j] ≠ (b, false)) : findL t b = -1 := by
  have : t.findIdx? (· == (b, false)) = none := by
    rw [List.findIdx?_eq_none_iff]
    intro x hx
    obtain ⟨j, hj, rfl⟩ := List.mem_iff_getElem.1 hx
    simpa using hb j hj
  unfold findL; rw [this]
set_option maxRecDepth 100000 in
set_option maxHeartbeats 1600000 in
theorem index_any (v : Value) (t : List Ch) (b : UInt8) (w : World) (h : Rd w v t.length (chs t)) (hl : t.length ≤ 1000000) :
    Calls Tryd.prog 53 #[v, .agg #[.int .u8 (b.toNat : Int), .bool false]] w fun e w' => e = .returned (.int .i64 (findL t b)) ∧ Below w.heap.size w w' := by
  obtain ⟨A, cap, rfl, hcap, hx⟩ := h.open_
  clear h
  have k0 := Bk.new w 55 #[.int .u8 (b.toNat : Int), .bool false]
  have hb0 := (Below.refl w.heap.size w).alloc (Nat.le_refl _) (.cells #[.int .u8 (b.toNat : Int), .bool false] 55)
  go_enter Tryd.func53, Tryd.ntmps53
  go_wp2_with fail
  go_loopw [8] (fun i wr => ∃ k : Nat, k ≤ t.length ∧ i = .int .i64 k ∧ Hid (∀ j (hj : j < t.length), j < k → t[j] ≠ (b, false)) ∧ Below w.heap.size w wr ∧ Bk wr w.heap.size 55 #[.int .u8 (b.toNat : Int), .bool false]) (fun i _ => t.length - (intOf i).toNat)
  case atStart => exact ⟨0, Nat.zero_le _, rfl, hid (fun j hj h0 => by omega), hb0, k0⟩
  case round =>
    clear k0 hb0
    obtain ⟨k, hk, rfl, HK, hb, k0⟩ := hrel
    have p0 := k0.cell 0 _ rfl
    have p1 := k0.cell 1 _ rfl
    by_cases hlt : k < t.length
    · rcases hx with hx | ⟨g, off, rfl, hc⟩
      · exact (chs_ne hlt hx).elim
      · obtain ⟨c1, c2⟩ := (show At w g off (chs t) from hc).below hb |>.ch k hlt
        have hi0 : (0 : Int) ≤ (k : Int) := Int.natCast_nonneg _
        have hi1 : (k : Int) < (t.length : Int) := by omega
        have HE := hid (show ∀ c, t[k] = c → t[k] = c from fun _ h => h)
        obtain ⟨c, hcc⟩ : ∃ c, t[k] = c := ⟨_, rfl⟩
        rw [hcc] at c1 c2
        have HC := hid hcc
        clear hc hcc HE
        obtain ⟨x, q⟩ := c
        dsimp only at c1 c2
        have hor : (x = b ∧ q = false) ∨ (q = true) ∨ (q = false ∧ ((b.toNat : Int) == (x.toNat : Int)) = false) := by
          cases q
          · by_cases hxb : x = b
            · exact .inl ⟨hxb, rfl⟩
            · right; right; refine ⟨rfl, ?_⟩; rw [u8_eq]; simpa using fun e : b = x => hxb e.symm
          · exact .inr (.inl rfl)
        rcases hor with ⟨hxb, rfl⟩ | hne
        · have HF := hid (findL_yes hlt (by rw [HC.out, hxb]) HK.out)
          rw [hxb] at c1
          clear hxb HK HC
          go_wp2_with fail
          go_quiet (fail)
          go_wp2_with fail
          go_ret
          exact ⟨ret_int HF.out.symm, by first | exact below_drewN hb _ | exact hb⟩
        · have HK' : Hid (∀ j (hj : j < t.length), j < k + 1 → t[j] ≠ (b, false)) := hid (fun j hj h0 => by
            by_cases hjk : j < k
            · exact HK.out j hj hjk
            · obtain rfl : j = k := by omega
              rw [HC.out]
              rcases hne with h | ⟨_, h⟩
              · simp [h]
              · rw [u8_eq] at h; simp at h; simp; exact fun e => (h e.symm).elim)
          clear HK HC
          rcases hne with rfl | ⟨rfl, hxe⟩
          all_goals
            go_wp2_with fail
            go_quiet (fail)
            go_wp2_with fail
            go_roundw
            case rel => exact ⟨k + 1, by omega, by go_num, HK', by first | exact below_drewN hb _ | exact hb, by first | exact k0.drewN _ | exact k0⟩
            case measure => simp [intOf]; omega
    · obtain rfl : k = t.length := by omega
      have HF := hid (findL_no fun j hj => HK.out j hj hj)
      clear HK hx
      go_wp2_with fail
      go_ret
      exact ⟨ret_int HF.out.symm, hb⟩
set_option maxHeartbeats 400000 in
theorem find_any (v : Value) (t : List Ch) (b : UInt8) (w : World) (h : Rd w v t.length (chs t)) (hl : t.length ≤ 1000000) :
    Calls Tryd.prog 32 #[v, .int .u8 (b.toNat : Int)] w fun e w' => e = .returned (.int .i64 (findL t b)) ∧ Below w.heap.size w w' := by
  go_enter Tryd.func32, Tryd.ntmps32
  go_wp2_with fail
  ((with_reducible refine (index_any v t b _ h hl).mono ?_); rintro e w1 ⟨rfl, hb⟩)
  go_wp2_with fail
  go_ret
  exact ⟨rfl, hb⟩
set_option maxHeartbeats 800000 in
theorem clone_any (v : Value) (t : List Ch) (w : World) (h : Rd w v t.length (chs t)) (hl : t.length ≤ 1000000) :
    Calls Tryd.prog 33 #[v] w fun e w' => ∃ v', e = .returned v' ∧ w'.ownsRow w.heap.size 55 2 v' t.length (chs t) ∧ Below w.heap.size w w' := by
  obtain ⟨i0, hi, hz0, hz1, hz2⟩ := info_parts Tryd.info55
  have HR := hid h
  obtain ⟨A, cap, rfl, hcap, hx⟩ := h.open_
  clear h
  have hnl := fun (w : World) (a : Option Addr) (n c : Nat) => Lib.run_eql_slice_nil (P := Tryd.prog) w 22 55 a n c 0 0 Tryd.underlying22
  cases A with
  | none =>
    have h0 : t = [] := by
      rcases hx with hx | ⟨g, off, h, _⟩
      · have := congrArg List.length hx; rw [chs_len] at this; exact List.eq_nil_of_length_eq_zero (by simp at this; omega)
      · cases h
    subst h0
    clear hx HR
    go_enter Tryd.func33, Tryd.ntmps33
    go_wp2_with fail
    go_ret
    exact ⟨_, rfl, World.ownsRow_nil _ _ _ _, Below.refl _ _⟩
  | some a =>
    clear hx
    have hown : (w.alloc (.cells #[] 55)).ownsRow w.heap.size 55 2 (.slice (some ⟨w.heap.size, 0, none⟩) 0 0) 0 [] := World.ownsRow_made w #[] 0 (Nat.le_refl _) (by unfold maxLen; omega) (by simp)
    go_enter Tryd.func33, Tryd.ntmps33
    go_wp2_with (at_builtin; refine wpList_append_rd _ rfl _ _ 22 rfl w.heap.size 55 i0 _ 2 2 Tryd.underlying22 hi hz0 hz1 hz2 rfl (by decide) _ 0 [] rfl hown (.slice (some a) t.length cap) t.length (chs t) rfl (HR.out.alloc _) (chs_len _) (chs_one _) (by unfold maxLen; omega) (by omega) (by simp) ?_)
    intro v' w2 hown2 hgrow hat
    have hbF := ((Below.refl w.heap.size w).alloc (Nat.le_refl _) (.cells #[] 55)).grown hgrow (by simp) (fun j hj => (hown.lt j hj).1)
    clear hown hgrow hat
    go_wp2_with fail
    go_ret
    exact ⟨_, rfl, hown2, hbF⟩
end Go.Proofs.YthnmdhcgnimdfaaDoor
