/- What the library's variables must hold; the walks of strconv.ParseUint at bases 8, 10, 16 on digits, and of sums.constant. -/
import Derived.Test.YtadmmmehphhecaaGreatDoorU
import Derived.Test.YtadmmmehphhecaaGreatDoorShelf
set_option linter.unusedVariables false
set_option linter.unusedSimpArgs false
namespace Go.Proofs.YtadmmmehphhecaaGreatDoor
open Go.RowKit
/-- what the library's variables hold -/
structure Laid (w : World) : Prop where
  rng : ∃ te pe, w.var? Tryz.prog "strconv.ErrRange" = some #[.iface te pe]
  syn : ∃ te pe, w.var? Tryz.prog "strconv.ErrSyntax" = some #[.iface te pe]
  pow : Lib.TabIs Tryz.prog w "internal/strconv.uint64pow10" .u64 Lib.pow10Tab
theorem var_below {w w' : World} {nm : String} {x : Array Value} (h : w.var? Tryz.prog nm = some x) (hb : Below w.heap.size w w') : w'.var? Tryz.prog nm = some x := by
  unfold World.var? at h ⊢
  cases hg : Tryz.prog.globalNamed nm with
  | none => rw [hg] at h; cases h
  | some g =>
    rw [hg] at h
    simp only [Option.bind_some] at h ⊢
    have hlt : g < w.heap.size := by
      rcases Nat.lt_or_ge g w.heap.size with h1 | h1
      · exact h1
      · rw [Array.getElem?_eq_none h1] at h; cases h
    rw [hb.block g hlt]; exact h
theorem Laid.below {w w' : World} (h : Laid w) (hb : Below w.heap.size w w') : Laid w' := by
  obtain ⟨⟨a, b, h1⟩, ⟨c, d, h2⟩, h3⟩ := h
  exact ⟨⟨a, b, var_below h1 hb⟩, ⟨c, d, var_below h2 hb⟩, var_below h3 hb⟩
theorem cell_var {w : World} {nm : String} {g : Nat} {v : Value} (h : w.var? Tryz.prog nm = some #[v]) (hg : Tryz.prog.globalNamed nm = some g) : w.cell? ⟨g, 0, none⟩ = some v := by
  unfold World.var? at h
  rw [hg] at h
  simp only [Option.bind_some] at h
  cases hh : w.heap[g]? with
  | none => rw [hh] at h; cases h
  | some o =>
    rw [hh] at h
    cases o with
    | cells cs t fr => simp at h; subst h; rw [cell_of_row w g 0 _ t fr hh]; rfl
    | _ => cases h
theorem Laid.rangeCell {w : World} (h : Laid w) : ∃ te pe, w.cell? ⟨4, 0, none⟩ = some (.iface te pe) := by
  obtain ⟨a, b, h1⟩ := h.rng; exact ⟨a, b, cell_var h1 (by kernel_rfl)⟩
theorem Laid.synCell {w : World} (h : Laid w) : ∃ te pe, w.cell? ⟨3, 0, none⟩ = some (.iface te pe) := by
  obtain ⟨a, b, h1⟩ := h.syn; exact ⟨a, b, cell_var h1 (by kernel_rfl)⟩
/-- what strconv.ParseUint comes to: a number and no error, or an error -/
def PuRes (o : Option Nat) (w : World) (e : Ending) (w' : World) : Prop :=
  Below w.heap.size w w' ∧ ((∃ n, o = some n ∧ e = .returned (.tuple #[.int .u64 (n : Int), .nilIface])) ∨ (o = none ∧ ∃ p, e = .returned (.tuple #[.int .u64 18446744073709551615, .iface 126 p])))
set_option maxHeartbeats 800000 in
theorem sparse_8 (t : ByteArray) (hne : t.size ≠ 0) (hmax : t.size ≤ 281474976710656) (hd : ∀ c ∈ t.data.toList, octB c = true) (w : World) (hL : Laid w) :
    Calls Tryz.prog 54 #[.string t, .int .i64 8, .int .i64 64] w (PuRes (parseB 8 0 t.data.toList) w) := by
  have HD := hid hd
  have HNE := hid hne
  clear hd hne
  cases hp : parseB 8 0 t.data.toList with
  | none =>
    have HR := hid (uintRes_none hp)
    clear hp
    go_enter Tryz.func54, Tryz.ntmps54
    go_wp2_with fail
    ((with_reducible refine (iparse_8 t HNE.out (by omega) HD.out _).mono ?_); rintro e w1 ⟨rfl, hb1⟩)
    rw [HR.out]
    obtain ⟨te, pe, hv⟩ := (hL.below hb1).rangeCell
    have HV := hid hv
    clear hv
    go_wp2_with fail
    ((with_reducible refine (Tryz.strconv_toError_range _ t 8 64 (.iface te pe) _ hmax HV.out (.inr ⟨_, _, rfl⟩)).mono ?_); rintro e w2 ⟨N, rfl, _, _, hb2⟩)
    have hB := hb1.trans (hb2.mono hb1.size)
    go_wp2_with fail
    go_ret2
    exact ⟨hB, .inr ⟨rfl, _, rfl⟩⟩
  | some n =>
    have HR := hid (uintRes_some hp)
    clear hp
    go_enter Tryz.func54, Tryz.ntmps54
    go_wp2_with fail
    ((with_reducible refine (iparse_8 t HNE.out (by omega) HD.out _).mono ?_); rintro e w1 ⟨rfl, hb1⟩)
    rw [HR.out]
    go_wp2_with fail
    go_ret2
    exact ⟨hb1, .inl ⟨n, rfl, rfl⟩⟩
set_option maxHeartbeats 800000 in
theorem sparse_10 (t : ByteArray) (hne : t.size ≠ 0) (hmax : t.size ≤ 281474976710656) (hd : ∀ c ∈ t.data.toList, digB c = true) (w : World) (hL : Laid w) :
    Calls Tryz.prog 54 #[.string t, .int .i64 10, .int .i64 64] w (PuRes (parseB 10 0 t.data.toList) w) := by
  have HD := hid hd
  have HNE := hid hne
  clear hd hne
  cases hp : parseB 10 0 t.data.toList with
  | none =>
    have HR := hid (uintRes_none hp)
    clear hp
    go_enter Tryz.func54, Tryz.ntmps54
    go_wp2_with fail
    ((with_reducible refine (iparse_10 t HNE.out (by omega) HD.out _).mono ?_); rintro e w1 ⟨rfl, hb1⟩)
    rw [HR.out]
    obtain ⟨te, pe, hv⟩ := (hL.below hb1).rangeCell
    have HV := hid hv
    clear hv
    go_wp2_with fail
    ((with_reducible refine (Tryz.strconv_toError_range _ t 10 64 (.iface te pe) _ hmax HV.out (.inr ⟨_, _, rfl⟩)).mono ?_); rintro e w2 ⟨N, rfl, _, _, hb2⟩)
    have hB := hb1.trans (hb2.mono hb1.size)
    go_wp2_with fail
    go_ret2
    exact ⟨hB, .inr ⟨rfl, _, rfl⟩⟩
  | some n =>
    have HR := hid (uintRes_some hp)
    clear hp
    go_enter Tryz.func54, Tryz.ntmps54
    go_wp2_with fail
    ((with_reducible refine (iparse_10 t HNE.out (by omega) HD.out _).mono ?_); rintro e w1 ⟨rfl, hb1⟩)
    rw [HR.out]
    go_wp2_with fail
    go_ret2
    exact ⟨hb1, .inl ⟨n, rfl, rfl⟩⟩
set_option maxHeartbeats 800000 in
theorem sparse_16 (t : ByteArray) (hne : t.size ≠ 0) (hmax : t.size ≤ 281474976710656) (hd : ∀ c ∈ t.data.toList, hexB c = true) (w : World) (hL : Laid w) :
    Calls Tryz.prog 54 #[.string t, .int .i64 16, .int .i64 64] w (PuRes (parseB 16 0 t.data.toList) w) := by
  have HD := hid hd
  have HNE := hid hne
  clear hd hne
  cases hp : parseB 16 0 t.data.toList with
  | none =>
    have HR := hid (uintRes_none hp)
    clear hp
    go_enter Tryz.func54, Tryz.ntmps54
    go_wp2_with fail
    ((with_reducible refine (iparse_16 t HNE.out (by omega) HD.out _).mono ?_); rintro e w1 ⟨rfl, hb1⟩)
    rw [HR.out]
    obtain ⟨te, pe, hv⟩ := (hL.below hb1).rangeCell
    have HV := hid hv
    clear hv
    go_wp2_with fail
    ((with_reducible refine (Tryz.strconv_toError_range _ t 16 64 (.iface te pe) _ hmax HV.out (.inr ⟨_, _, rfl⟩)).mono ?_); rintro e w2 ⟨N, rfl, _, _, hb2⟩)
    have hB := hb1.trans (hb2.mono hb1.size)
    go_wp2_with fail
    go_ret2
    exact ⟨hB, .inr ⟨rfl, _, rfl⟩⟩
  | some n =>
    have HR := hid (uintRes_some hp)
    clear hp
    go_enter Tryz.func54, Tryz.ntmps54
    go_wp2_with fail
    ((with_reducible refine (iparse_16 t HNE.out (by omega) HD.out _).mono ?_); rintro e w1 ⟨rfl, hb1⟩)
    rw [HR.out]
    go_wp2_with fail
    go_ret2
    exact ⟨hb1, .inl ⟨n, rfl, rfl⟩⟩
end Go.Proofs.YtadmmmehphhecaaGreatDoor
