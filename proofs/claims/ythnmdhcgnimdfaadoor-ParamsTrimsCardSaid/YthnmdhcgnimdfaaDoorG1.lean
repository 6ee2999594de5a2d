/- The walks of globs.bare, globs.class, globs.named, globs.thing, globs.group, for texts of up to a million bytes. -/
import Derived.Test.YthnmdhcgnimdfaaDoorProg
import Derived.Test.YthnmdhcgnimdfaaDoorGlob
import Derived.Deep.QuietTactic
import Derived.BigQuiet
import Derived.Deep.RegionHeld3
import Derived.Deep.AppendLies
import Derived.Deep.DrawnRows
import Derived.Laws.StructEq
import Derived.Outline
set_option linter.unusedVariables false
set_option linter.unusedSimpArgs false
namespace Go.Proofs.YthnmdhcgnimdfaaDoor
open Go.RowKit
attribute [local go_sem ↓] Go.wp_at_zero Go.wp_at_succ
theorem below_drewN {B : Nat} {a w : World} (h : Below B a w) (n : Nat) : Below B a (w.drewN n) := h.trans ⟨rfl, rfl, rfl, Nat.le_refl _, fun _ _ => rfl⟩
theorem bareB_iff (t : List Ch) (s : List UInt8) : bareB t s = true ↔ ∀ j (h : j < s.length), t[j]? = some (s[j], false) := by
  unfold bareB
  rw [List.isPrefixOf_iff_prefix, List.prefix_iff_getElem?]
  simp
theorem u8_eq (a b : UInt8) : ((a.toNat : Int) == (b.toNat : Int)) = (a == b) := by
  rw [Bool.eq_iff_iff]; simp [← UInt8.toNat_inj]; omega

set_option maxHeartbeats 400000 in
theorem bare_any (v : Value) (t : List Ch) (s : ByteArray) (w : World) (h : Rd w v t.length (chs t)) (hl : t.length ≤ 1000000) (hs : s.size ≤ 1000000) :
    Calls Tryd.prog 54 #[v, .string s] w fun e w' => e = .returned (.bool (bareB t s.data.toList)) ∧ Below w.heap.size w w' := by
  obtain ⟨A, cap, rfl, hcap, hx⟩ := h.open_
  clear h
  have HB := hid (bareB_iff t s.data.toList)
  by_cases hle : t.length < s.size
  · have hno : bareB t s.data.toList = false := by
      cases hb : bareB t s.data.toList
      · rfl
      · have := HB.out.1 hb t.length (by simpa using hle)
        simp at this
    go_enter Tryd.func54, Tryd.ntmps54
    go_wp2
    go_ret
    exact ⟨ret_bool hno.symm, Below.refl _ _⟩
  · have hd : decide ((t.length : Int) < (s.size : Int)) = false := by simp; omega
    go_enter Tryd.func54, Tryd.ntmps54
    go_wp2
    go_loopw [13] (fun i wr => ∃ k : Nat, k ≤ s.size ∧ i = .int .i64 k ∧ Hid (∀ j (h : j < s.data.toList.length), j < k → t[j]? = some (s.data.toList[j], false)) ∧ Below w.heap.size w wr) (fun i _ => s.size - (intOf i).toNat)
    case atStart => exact ⟨0, Nat.zero_le _, rfl, hid (fun j h h0 => by omega), Below.refl _ _⟩
    case round =>
      obtain ⟨k, hk, rfl, HK, hb⟩ := hrel
      by_cases hlt : k < s.size
      · rcases hx with hx | ⟨b, off, rfl, hc⟩
        · exact (chs_ne (k := k) (by omega) hx).elim
        · obtain ⟨c1, c2⟩ := (hc.below hb).ch k (by omega)
          clear hc
          have hkt : k < t.length := by omega
          have hks : k < s.data.toList.length := by simpa using hlt
          have hsk : s.data.toList[k] = s[k] := by rw [Array.getElem_toList]; rfl
          have HE := hid (List.getElem?_eq_getElem hkt)
          have HSK := hid hsk
          clear hsk
          have hi0 : (0 : Int) ≤ (k : Int) := Int.natCast_nonneg _
          have hi1 : (k : Int) < (t.length : Int) := by omega
          generalize t[k] = c at *
          obtain ⟨x, q⟩ := c
          by_cases hq : q = false ∧ x = s[k]
          · obtain ⟨rfl, hxs⟩ := hq
            have HX := hid hxs
            rw [hxs] at c1
            clear hxs
            go_wp2_with fail
            go_quiet (fail)
            go_wp2
            go_roundw
            case rel =>
              refine ⟨k + 1, by omega, by go_num, hid (fun j h1 h2 => ?_), by first | exact below_drewN hb _ | exact hb⟩
              by_cases hj : j < k
              · exact HK.out j h1 hj
              · obtain rfl : j = k := by omega
                rw [HE.out, HX.out, HSK.out]
            case measure => simp [intOf]; omega
          · have hno : bareB t s.data.toList = false := by
              cases hb : bareB t s.data.toList
              · rfl
              · have := HB.out.1 hb k hks
                rw [HE.out, HSK.out] at this
                exact (hq (by simpa [and_comm] using this)).elim
            have hor : q = true ∨ (q = false ∧ ((x.toNat : Int) == (s[k].toNat : Int)) = false) := by
              cases q
              · right; refine ⟨rfl, ?_⟩; rw [u8_eq]; simp; exact fun h => hq ⟨rfl, h⟩
              · exact .inl rfl
            clear hq HB HE HK
            rcases hor with rfl | ⟨rfl, hxe⟩
            all_goals
              go_wp2_with fail
              go_quiet (fail)
              go_wp2
              go_ret
              exact ⟨ret_bool hno.symm, by first | exact below_drewN hb _ | exact hb⟩
      · obtain rfl : k = s.size := by omega
        have hyes : bareB t s.data.toList = true := HB.out.2 fun j h => HK.out j h (by simpa using h)
        clear HK HB
        go_wp2
        go_ret
        exact ⟨ret_bool hyes.symm, hb⟩
theorem cls_yes (nm K : List UInt8) (h : (nm == K) = true) : nm = K := by simpa using h
theorem cls_no (nm : List UInt8) (h0 : (nm == [97, 108, 110, 117, 109]) = false) (h1 : (nm == [97, 108, 112, 104, 97]) = false) (h2 : (nm == [98, 108, 97, 110, 107]) = false) (h3 : (nm == [115, 112, 97, 99, 101]) = false) (h4 : (nm == [99, 110, 116, 114, 108]) = false) (h5 : (nm == [112, 114, 105, 110, 116]) = false) (h6 : (nm == [103, 114, 97, 112, 104]) = false) (h7 : (nm == [100, 105, 103, 105, 116]) = false) (h8 : (nm == [120, 100, 105, 103, 105, 116]) = false) (h9 : (nm == [108, 111, 119, 101, 114]) = false) (h10 : (nm == [117, 112, 112, 101, 114]) = false) (h11 : (nm == [112, 117, 110, 99, 116]) = false) : classL nm = [] := by
  simp only [beq_eq_false_iff_ne] at *; simp [classL, *]
theorem At.new (w : World) (cs : Array Value) (t : TypeId) : At (w.alloc (.cells cs t)) w.heap.size 0 cs.toList := fun j u hu => by
  rw [Nat.zero_add]; exact (cell_of_row _ _ j _ _ _ (heap_alloc_new w _)).trans (by simpa using hu)
def ClassPost (nm : List UInt8) (w : World) (e : Ending) (w' : World) : Prop :=
  (classL nm = [] ∧ e = .returned (.slice none 0 0) ∧ w = w') ∨
  (classL nm ≠ [] ∧ ∃ g, e = .returned (.slice (some ⟨g, 0, none⟩) (classL nm).length (classL nm).length) ∧ At w' g 0 (rgs (classL nm)) ∧ Below w.heap.size w w')
set_option maxRecDepth 100000 in
set_option maxHeartbeats 4000000 in
theorem class_any (nm : List UInt8) (w : World) : Calls Tryd.prog 75 #[.string ⟨nm.toArray⟩] w (ClassPost nm w) := by
  go_enter Tryd.func75, Tryd.ntmps75
  go_wp2_with fail
  all_goals first
    | (have hc := cls_yes nm [97, 108, 110, 117, 109] (by assumption); subst hc; go_ret; exact .inr ⟨by decide, _, rfl, At.new _ _ _, (Below.refl _ _).alloc (Nat.le_refl _) _⟩)
    | (have hc := cls_yes nm [97, 108, 112, 104, 97] (by assumption); subst hc; go_ret; exact .inr ⟨by decide, _, rfl, At.new _ _ _, (Below.refl _ _).alloc (Nat.le_refl _) _⟩)
    | (have hc := cls_yes nm [98, 108, 97, 110, 107] (by assumption); subst hc; go_ret; exact .inr ⟨by decide, _, rfl, At.new _ _ _, (Below.refl _ _).alloc (Nat.le_refl _) _⟩)
    | (have hc := cls_yes nm [115, 112, 97, 99, 101] (by assumption); subst hc; go_ret; exact .inr ⟨by decide, _, rfl, At.new _ _ _, (Below.refl _ _).alloc (Nat.le_refl _) _⟩)
    | (have hc := cls_yes nm [99, 110, 116, 114, 108] (by assumption); subst hc; go_ret; exact .inr ⟨by decide, _, rfl, At.new _ _ _, (Below.refl _ _).alloc (Nat.le_refl _) _⟩)
    | (have hc := cls_yes nm [112, 114, 105, 110, 116] (by assumption); subst hc; go_ret; exact .inr ⟨by decide, _, rfl, At.new _ _ _, (Below.refl _ _).alloc (Nat.le_refl _) _⟩)
    | (have hc := cls_yes nm [103, 114, 97, 112, 104] (by assumption); subst hc; go_ret; exact .inr ⟨by decide, _, rfl, At.new _ _ _, (Below.refl _ _).alloc (Nat.le_refl _) _⟩)
    | (have hc := cls_yes nm [100, 105, 103, 105, 116] (by assumption); subst hc; go_ret; exact .inr ⟨by decide, _, rfl, At.new _ _ _, (Below.refl _ _).alloc (Nat.le_refl _) _⟩)
    | (have hc := cls_yes nm [120, 100, 105, 103, 105, 116] (by assumption); subst hc; go_ret; exact .inr ⟨by decide, _, rfl, At.new _ _ _, (Below.refl _ _).alloc (Nat.le_refl _) _⟩)
    | (have hc := cls_yes nm [108, 111, 119, 101, 114] (by assumption); subst hc; go_ret; exact .inr ⟨by decide, _, rfl, At.new _ _ _, (Below.refl _ _).alloc (Nat.le_refl _) _⟩)
    | (have hc := cls_yes nm [117, 112, 112, 101, 114] (by assumption); subst hc; go_ret; exact .inr ⟨by decide, _, rfl, At.new _ _ _, (Below.refl _ _).alloc (Nat.le_refl _) _⟩)
    | (have hc := cls_yes nm [112, 117, 110, 99, 116] (by assumption); subst hc; go_ret; exact .inr ⟨by decide, _, rfl, At.new _ _ _, (Below.refl _ _).alloc (Nat.le_refl _) _⟩)
    | (have hc := cls_no nm (by assumption) (by assumption) (by assumption) (by assumption) (by assumption) (by assumption) (by assumption) (by assumption) (by assumption) (by assumption) (by assumption) (by assumption); go_ret; exact .inl ⟨hc, rfl, rfl⟩)
end Go.Proofs.YthnmdhcgnimdfaaDoor
