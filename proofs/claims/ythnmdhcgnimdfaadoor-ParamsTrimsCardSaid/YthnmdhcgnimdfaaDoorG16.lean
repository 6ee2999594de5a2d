/- The walks of whelkref02.is, whelkref02.class and whelkref01.Plain: what stands at a place, the classes, the bytes alone. -/
import Derived.Test.YthnmdhcgnimdfaaDoorG9
set_option linter.unusedVariables false
set_option linter.unusedSimpArgs false
namespace Go.Proofs.YthnmdhcgnimdfaaDoor
open Go.RowKit
attribute [local go_sem ↓] Go.wp_at_zero Go.wp_at_succ
def isB (t : List Ch) (i : Nat) (b : UInt8) : Bool := t[i]? == some (b, false)
set_option maxHeartbeats 800000 in
theorem is_any (v : Value) (t : List Ch) (i : Nat) (b : UInt8) (w : World) (h : Rd w v t.length (chs t)) (hl : t.length ≤ 1000000) (hi : i ≤ 2000000) :
    Calls Tryd.prog 37 #[v, .int .i64 (i : Int), .int .u8 (b.toNat : Int)] w fun e w' => e = .returned (.bool (isB t i b)) ∧ w = w' := by
  obtain ⟨A, cap, rfl, hcap, hx⟩ := h.open_
  clear h
  by_cases hlt : i < t.length
  · rcases hx with hx | ⟨g, off, rfl, hc⟩
    · exact (chs_ne hlt hx).elim
    · obtain ⟨c1, c2⟩ := (show At w g off (chs t) from hc).ch i hlt
      have hB : isB t i b = (t[i] == (b, false)) := by unfold isB; rw [List.getElem?_eq_getElem hlt]; rfl
      rw [hB]
      clear hB hc
      generalize t[i] = c at *
      obtain ⟨x, q⟩ := c
      dsimp only at c1 c2
      cases q with
      | true =>
        have hr : (((x, true) : Ch) == (b, false)) = false := by simp
        rw [hr]
        go_enter Tryd.func37, Tryd.ntmps37
        go_wp2_with fail
        go_ret
        exact ⟨rfl, rfl⟩
      | false =>
        have hr : (((x, false) : Ch) == (b, false)) = ((x.toNat : Int) == (b.toNat : Int)) := by rw [u8_eq, Bool.eq_iff_iff]; simp
        rw [hr]
        go_enter Tryd.func37, Tryd.ntmps37
        go_wp2_with fail
        go_ret
        exact ⟨rfl, rfl⟩
  · have hB : isB t i b = false := by unfold isB; rw [List.getElem?_eq_none (by omega)]; rfl
    rw [hB]
    have hd : decide (i < t.length) = false := by simpa using hlt
    clear hx hB hlt
    go_enter Tryd.func37, Tryd.ntmps37
    go_wp2_with fail
    go_ret
    exact ⟨rfl, rfl⟩
theorem At.new_ (w : World) (cs : Array Value) (t : TypeId) (g : Nat) (hg : w.heap.size = g) : At (w.alloc (.cells cs t)) g 0 cs.toList := by subst hg; exact At.new w cs t
def RefClassPost (nm : List UInt8) (w : World) (e : Ending) (w' : World) : Prop :=
  (classL nm = [] ∧ e = .returned (.tuple #[.slice none 0 0, .bool false]) ∧ Below w.heap.size w w') ∨
  (classL nm ≠ [] ∧ ∃ g, e = .returned (.tuple #[.slice (some ⟨g, 0, none⟩) (classL nm).length (classL nm).length, .bool true]) ∧ At w' g 0 (rgs (classL nm)) ∧ Below w.heap.size w w')
set_option maxRecDepth 100000 in
set_option maxHeartbeats 4000000 in
theorem refclass_any (nm : List UInt8) (w : World) : Calls Tryd.prog 58 #[.string ⟨nm.toArray⟩] w (RefClassPost nm w) := by
  go_enter Tryd.func58, Tryd.ntmps58
  go_wp2_with fail
  all_goals first
    | (have hc := cls_yes nm [97, 108, 110, 117, 109] (by assumption); subst hc; go_ret2; exact .inr ⟨by decide, _, rfl, At.new_ _ _ _ _ (by simp), (((((Below.refl _ _).alloc (Nat.le_refl _) _).alloc (by simp) _).alloc (by simp; omega) _).alloc (by simp; omega) _).alloc (by simp; omega) _⟩)
    | (have hc := cls_yes nm [97, 108, 112, 104, 97] (by assumption); subst hc; go_ret2; exact .inr ⟨by decide, _, rfl, At.new_ _ _ _ _ (by simp), (((((Below.refl _ _).alloc (Nat.le_refl _) _).alloc (by simp) _).alloc (by simp; omega) _).alloc (by simp; omega) _).alloc (by simp; omega) _⟩)
    | (have hc := cls_yes nm [98, 108, 97, 110, 107] (by assumption); subst hc; go_ret2; exact .inr ⟨by decide, _, rfl, At.new_ _ _ _ _ (by simp), (((((Below.refl _ _).alloc (Nat.le_refl _) _).alloc (by simp) _).alloc (by simp; omega) _).alloc (by simp; omega) _).alloc (by simp; omega) _⟩)
    | (have hc := cls_yes nm [115, 112, 97, 99, 101] (by assumption); subst hc; go_ret2; exact .inr ⟨by decide, _, rfl, At.new_ _ _ _ _ (by simp), (((((Below.refl _ _).alloc (Nat.le_refl _) _).alloc (by simp) _).alloc (by simp; omega) _).alloc (by simp; omega) _).alloc (by simp; omega) _⟩)
    | (have hc := cls_yes nm [99, 110, 116, 114, 108] (by assumption); subst hc; go_ret2; exact .inr ⟨by decide, _, rfl, At.new_ _ _ _ _ (by simp), (((((Below.refl _ _).alloc (Nat.le_refl _) _).alloc (by simp) _).alloc (by simp; omega) _).alloc (by simp; omega) _).alloc (by simp; omega) _⟩)
    | (have hc := cls_yes nm [112, 114, 105, 110, 116] (by assumption); subst hc; go_ret2; exact .inr ⟨by decide, _, rfl, At.new_ _ _ _ _ (by simp), (((((Below.refl _ _).alloc (Nat.le_refl _) _).alloc (by simp) _).alloc (by simp; omega) _).alloc (by simp; omega) _).alloc (by simp; omega) _⟩)
    | (have hc := cls_yes nm [103, 114, 97, 112, 104] (by assumption); subst hc; go_ret2; exact .inr ⟨by decide, _, rfl, At.new_ _ _ _ _ (by simp), (((((Below.refl _ _).alloc (Nat.le_refl _) _).alloc (by simp) _).alloc (by simp; omega) _).alloc (by simp; omega) _).alloc (by simp; omega) _⟩)
    | (have hc := cls_yes nm [100, 105, 103, 105, 116] (by assumption); subst hc; go_ret2; exact .inr ⟨by decide, _, rfl, At.new_ _ _ _ _ (by simp), (((((Below.refl _ _).alloc (Nat.le_refl _) _).alloc (by simp) _).alloc (by simp; omega) _).alloc (by simp; omega) _).alloc (by simp; omega) _⟩)
    | (have hc := cls_yes nm [120, 100, 105, 103, 105, 116] (by assumption); subst hc; go_ret2; exact .inr ⟨by decide, _, rfl, At.new_ _ _ _ _ (by simp), (((((Below.refl _ _).alloc (Nat.le_refl _) _).alloc (by simp) _).alloc (by simp; omega) _).alloc (by simp; omega) _).alloc (by simp; omega) _⟩)
    | (have hc := cls_yes nm [108, 111, 119, 101, 114] (by assumption); subst hc; go_ret2; exact .inr ⟨by decide, _, rfl, At.new_ _ _ _ _ (by simp), (((((Below.refl _ _).alloc (Nat.le_refl _) _).alloc (by simp) _).alloc (by simp; omega) _).alloc (by simp; omega) _).alloc (by simp; omega) _⟩)
    | (have hc := cls_yes nm [117, 112, 112, 101, 114] (by assumption); subst hc; go_ret2; exact .inr ⟨by decide, _, rfl, At.new_ _ _ _ _ (by simp), (((((Below.refl _ _).alloc (Nat.le_refl _) _).alloc (by simp) _).alloc (by simp; omega) _).alloc (by simp; omega) _).alloc (by simp; omega) _⟩)
    | (have hc := cls_yes nm [112, 117, 110, 99, 116] (by assumption); subst hc; go_ret2; exact .inr ⟨by decide, _, rfl, At.new_ _ _ _ _ (by simp), (((((Below.refl _ _).alloc (Nat.le_refl _) _).alloc (by simp) _).alloc (by simp; omega) _).alloc (by simp; omega) _).alloc (by simp; omega) _⟩)
    | (have hc := cls_no nm (by assumption) (by assumption) (by assumption) (by assumption) (by assumption) (by assumption) (by assumption) (by assumption) (by assumption) (by assumption) (by assumption) (by assumption); go_ret2; exact .inl ⟨hc, rfl, (((((Below.refl _ _).alloc (Nat.le_refl _) _).alloc (by simp) _).alloc (by simp; omega) _).alloc (by simp; omega) _)⟩)
end Go.Proofs.YthnmdhcgnimdfaaDoor
