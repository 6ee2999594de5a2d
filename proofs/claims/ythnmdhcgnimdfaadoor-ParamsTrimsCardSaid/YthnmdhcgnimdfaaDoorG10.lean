/- The walks of params.Arg (case by case), params.Join, and the chapter's examples (awake). -/
import Derived.Test.YthnmdhcgnimdfaaDoorG9
import Derived.Test.YthnmdhcgnimdfaaDoorShelf
import Derived.Shelf.Strings.SlTrimAscii
import Derived.WalkSpells
set_option linter.unusedVariables false
set_option linter.unusedSimpArgs false
namespace Go.Proofs.YthnmdhcgnimdfaaDoor
open Go.RowKit
attribute [local go_sem ↓] Go.wp_at_zero Go.wp_at_succ
def digs : List UInt8 := [48, 49, 50, 51, 52, 53, 54, 55, 56, 57]
def strs (l : List ByteArray) : List Value := l.map Value.string
theorem strim_any (s : ByteArray) (w : World) (hs : s.size ≤ 9223372036854775807) : Calls Tryd.prog 27 #[.string s, .string ⟨#[48, 49, 50, 51, 52, 53, 54, 55, 56, 57]⟩] w fun e w' => e = .returned (.string ⟨(Lib.trimS s.data.toList digs).toArray⟩) ∧ Below w.heap.size w w' :=
  Any.strings_Trim_laid Tryd.lays160 (by kernel_rfl) s ⟨#[48, 49, 50, 51, 52, 53, 54, 55, 56, 57]⟩ w hs (by decide) (by
    intro j b hb
    have := List.mem_of_getElem? hb
    simp at this
    rcases this with rfl | rfl | rfl | rfl | rfl | rfl | rfl | rfl | rfl | rfl <;> decide)
theorem ext_one (s : ByteArray) (k : Nat) (h : k < s.size) : s.data.toList[k]? = some s[k] := by
  rw [List.getElem?_eq_getElem (by simpa using h), Array.getElem_toList]; rfl
set_option maxHeartbeats 400000 in
theorem arg_nil (va : Value) (w : World) :
    Calls Tryd.prog 13 #[va, .string ⟨#[]⟩] w fun e w' => e = .returned (.tuple #[.string ⟨#[]⟩, .bool false, .int .i64 1]) ∧ w = w' := by
  go_enter Tryd.func13, Tryd.ntmps13
  go_wp2_with fail
  go_ret3
  exact ⟨rfl, rfl⟩
set_option maxHeartbeats 400000 in
theorem arg_zero (va : Value) (s : ByteArray) (w : World) (hs : 0 < s.size) (h0 : s[0] = 48) :
    Calls Tryd.prog 13 #[va, .string s] w fun e w' => e = .returned (.tuple #[.string ⟨#[]⟩, .bool false, .int .i64 1]) ∧ w = w' := by
  have hne : (s.toList == []) = false := by rw [ByteArray.toList_eq]; simp; intro h; rw [← ByteArray.size_data, h] at hs; simp at hs
  have hne2 : s.toList.isEmpty = false := by rw [ByteArray.toList_eq]; simp; intro h; rw [← ByteArray.size_data, h] at hs; simp at hs
  have hz : ((s[0].toNat : Int) == 48) = true := by rw [h0]; rfl
  clear h0
  go_enter Tryd.func13, Tryd.ntmps13
  go_wp2_with fail
  go_ret3
  exact ⟨rfl, rfl⟩
theorem ne_facts (s : ByteArray) (hs : 0 < s.size) : (s.toList == []) = false ∧ s.toList.isEmpty = false := by
  constructor
  · rw [ByteArray.toList_eq]; simp; intro h; rw [← ByteArray.size_data, h] at hs; simp at hs
  · rw [ByteArray.toList_eq]; simp; intro h; rw [← ByteArray.size_data, h] at hs; simp at hs
theorem lst_facts (l : List UInt8) (h : l ≠ []) : (l == []) = false ∧ l.isEmpty = false := by cases l <;> simp_all
set_option maxHeartbeats 400000 in
theorem arg_bad (va : Value) (s : ByteArray) (w : World) (hs : 0 < s.size) (hs9 : s.size ≤ 9223372036854775807) (h0 : s[0] ≠ 48) (ht : Lib.trimS s.data.toList digs ≠ []) :
    Calls Tryd.prog 13 #[va, .string s] w fun e w' => e = .returned (.tuple #[.string ⟨#[]⟩, .bool false, .int .i64 1]) ∧ Below w.heap.size w w' := by
  obtain ⟨hne, hne2⟩ := ne_facts s hs
  have hz : ((s[0].toNat : Int) == 48) = false := u8_no h0 rfl
  obtain ⟨ht1, ht2⟩ := lst_facts _ ht
  clear h0 ht
  go_enter Tryd.func13, Tryd.ntmps13
  go_wp2_with fail
  ((with_reducible refine (strim_any s _ hs9).mono ?_); rintro e w1 ⟨rfl, hb⟩)
  generalize Lib.trimS s.data.toList digs = tr at *
  go_wp2_with fail
  go_ret3
  exact ⟨rfl, hb⟩
theorem atoi_ok (s : ByteArray) (hs : s.size ≤ 1000) (v : Int) (h : Lib.atoiAll s.data.toList = .ok v) (w : World) :
    Calls Tryd.prog 28 #[.string s] w fun e w' => e = .returned (.tuple #[.int .i64 v, .nilIface]) ∧ Below w.heap.size w w' :=
  (Tryd.strconv_Atoi_ok s (by omega) v h w).mono fun e w' ⟨he, hw⟩ => ⟨he, by
    rcases hw with rfl | ⟨t, rfl⟩
    · exact Below.refl _ _
    · exact Lib.bytesWorld_below _ _ _⟩
set_option maxHeartbeats 800000 in
theorem arg_out (A : Option Addr) (n cap : Nat) (s : ByteArray) (w : World) (hs : 0 < s.size) (hs9 : s.size ≤ 1000) (h0 : s[0] ≠ 48) (ht : Lib.trimS s.data.toList digs = []) (v : Int) (hv : Lib.atoiAll s.data.toList = .ok v) (hgt : (n : Int) < v) :
    Calls Tryd.prog 13 #[.slice A n cap, .string s] w fun e w' => e = .returned (.tuple #[.string ⟨#[]⟩, .bool false, .int .i64 0]) ∧ Below w.heap.size w w' := by
  obtain ⟨hne, hne2⟩ := ne_facts s hs
  have hz : ((s[0].toNat : Int) == 48) = false := u8_no h0 rfl
  have HT := hid ht
  clear h0 ht
  go_enter Tryd.func13, Tryd.ntmps13
  go_wp2_with fail
  ((with_reducible refine (strim_any s _ (by omega)).mono ?_); rintro e w1 ⟨rfl, hb⟩)
  rw [HT.out]
  go_wp2_with fail
  ((with_reducible refine (atoi_ok s (by omega) v hv _).mono ?_); rintro e w2 ⟨rfl, hb2⟩)
  have hB := hb.trans (hb2.mono hb.size)
  clear hv hb hb2
  go_wp2_with fail
  go_ret3
  exact ⟨rfl, hB⟩
set_option maxHeartbeats 800000 in
theorem arg_in (va : Value) (l : List ByteArray) (s : ByteArray) (w : World) (h : Rd w va l.length (strs l)) (hl : l.length ≤ 1000000) (hs : 0 < s.size) (hs9 : s.size ≤ 1000) (h0 : s[0] ≠ 48) (ht : Lib.trimS s.data.toList digs = []) (k : Nat) (hk : k < l.length) (hv : Lib.atoiAll s.data.toList = .ok ((k : Int) + 1)) :
    Calls Tryd.prog 13 #[va, .string s] w fun e w' => e = .returned (.tuple #[.string l[k], .bool true, .int .i64 0]) ∧ Below w.heap.size w w' := by
  obtain ⟨hne, hne2⟩ := ne_facts s hs
  have hz : ((s[0].toNat : Int) == 48) = false := u8_no h0 rfl
  have HT := hid ht
  obtain ⟨b, off, cap, rfl, hcap, hat⟩ := h.form (by intro e; have := congrArg List.length e; rw [strs, List.length_map, List.length_nil] at this; omega)
  have hcell := (show At w b off (strs l) from hat) k (.string l[k]) (by simp [strs, List.getElem?_eq_getElem hk])
  clear h0 ht hat h
  generalize l[k] = r at *
  have hi0 : (0 : Int) ≤ (k : Int) := Int.natCast_nonneg _
  have hi1 : (k : Int) < (l.length : Int) := by omega
  go_enter Tryd.func13, Tryd.ntmps13
  go_wp2_with fail
  ((with_reducible refine (strim_any s _ (by omega)).mono ?_); rintro e w1 ⟨rfl, hb⟩)
  rw [HT.out]
  have hcell := bel_cell hb hcell
  go_wp2_with fail
  ((with_reducible refine (atoi_ok s (by omega) _ hv _).mono ?_); rintro e w2 ⟨rfl, hb2⟩)
  have hcell := bel_cell hb2 hcell
  have hB := hb.trans (hb2.mono hb.size)
  clear hv hb hb2
  go_wp2_with fail
  go_ret3
  exact ⟨rfl, hB⟩
theorem At.strs_of {w : World} {b off : Nat} {l : List ByteArray} (h : At w b off (strs l)) : ∀ (j : Nat) x, l[j]? = some x → w.cell? ⟨b, off + j, none⟩ = some (.string x) := fun j x hx => h j _ (by simp [strs, hx])
theorem join_lib (va : Value) (l : List ByteArray) (sep : ByteArray) (w : World) (h : Rd w va l.length (strs l)) (hl : l.length ≤ 1000000) (hn : (Lib.join (l.map (·.data.toList)) sep.data.toList).length ≤ 100000000) :
    Calls Tryd.prog 30 #[va, .string sep] w fun e w' => e = .returned (.string ⟨(Lib.join (l.map (·.data.toList)) sep.data.toList).toArray⟩) ∧ Below w.heap.size w w' := by
  cases l with
  | nil =>
    obtain ⟨A, cap, rfl, _, _⟩ := h.open_
    exact (Tryd.strings_Join_none A cap sep w).mono fun e w' ⟨he, hw⟩ => ⟨he, by subst hw; exact Below.refl _ _⟩
  | cons x r =>
    obtain ⟨b, off, cap, rfl, hcap, hat⟩ := h.form (by simp [strs])
    have hat' : At w b off (strs (x :: r)) := hat
    exact Tryd.strings_Join b off cap (x :: r) sep w hat'.strs_of (hat'.lt (by simp [strs])) (by omega) hcap (by omega)
def sepOf (sep : ByteArray) (set : Bool) : ByteArray := if set then (if sep.size = 0 then sep else sep.extract 0 1) else ⟨#[32]⟩
set_option maxHeartbeats 800000 in
theorem pjoin_any (va : Value) (l : List ByteArray) (sep : ByteArray) (set : Bool) (w : World) (h : Rd w va l.length (strs l)) (hl : l.length ≤ 1000000) (hn : (Lib.join (l.map (·.data.toList)) (sepOf sep set).data.toList).length ≤ 100000000) (hs9 : sep.size ≤ 9223372036854775807) :
    Calls Tryd.prog 15 #[va, .string sep, .bool set] w fun e w' => e = .returned (.string ⟨(Lib.join (l.map (·.data.toList)) (sepOf sep set).data.toList).toArray⟩) ∧ Below w.heap.size w w' := by
  cases set with
  | false =>
    have e : sepOf sep false = ⟨#[32]⟩ := rfl
    rw [e] at hn ⊢
    go_enter Tryd.func15, Tryd.ntmps15
    go_wp2_with fail
    ((with_reducible refine (join_lib va l ⟨#[32]⟩ _ h hl hn).mono ?_); rintro e w1 ⟨rfl, hb⟩)
    go_wp2_with fail
    go_ret
    exact ⟨rfl, hb⟩
  | true =>
    by_cases h0 : sep.size = 0
    · have e : sepOf sep true = sep := by simp [sepOf, h0]
      rw [e] at hn ⊢
      have hs : sep = ⟨#[]⟩ := by apply ByteArray.ext; exact Array.eq_empty_of_size_eq_zero h0
      subst hs
      go_enter Tryd.func15, Tryd.ntmps15
      go_wp2_with fail
      ((with_reducible refine (join_lib va l ⟨#[]⟩ _ h hl hn).mono ?_); rintro e w1 ⟨rfl, hb⟩)
      go_wp2_with fail
      go_ret
      exact ⟨rfl, hb⟩
    · have e : sepOf sep true = sep.extract 0 1 := by simp [sepOf, h0]
      rw [e] at hn ⊢
      obtain ⟨hne, hne2⟩ := ne_facts sep (by omega)
      have h1 : (1 : Int) ≤ (sep.size : Int) := by omega
      go_enter Tryd.func15, Tryd.ntmps15
      go_wp2_with fail
      ((with_reducible refine (join_lib va l (sep.extract 0 1) _ h hl hn).mono ?_); rintro e w1 ⟨rfl, hb⟩)
      go_wp2_with fail
      go_ret
      exact ⟨by rw [ext_take]; rfl, hb⟩
theorem At.new2 (w : World) (a b : ByteArray) : Rd (w.alloc (.cells #[.string a, .string b] 9)) (.slice (some ⟨w.heap.size, 0, none⟩) 2 2) 2 (strs [a, b]) := (At.new w #[.string a, .string b] 9).rd (Nat.le_refl _)
theorem At.new1 (w : World) (a : ByteArray) : Rd (w.alloc (.cells #[.string a] 9)) (.slice (some ⟨w.heap.size, 0, none⟩) 1 1) 1 (strs [a]) := (At.new w #[.string a] 9).rd (Nat.le_refl _)
theorem arg_2 (va : Value) (w : World) (h : Rd w va 2 (strs [⟨#[97]⟩, ⟨#[98]⟩])) : Calls Tryd.prog 13 #[va, .string ⟨#[50]⟩] w fun e w' => e = .returned (.tuple #[.string ⟨#[98]⟩, .bool true, .int .i64 0]) ∧ Below w.heap.size w w' :=
  arg_in va [⟨#[97]⟩, ⟨#[98]⟩] ⟨#[50]⟩ w h (by decide) (by decide) (by decide) (by decide) (by decide) 1 (by decide) (by decide)
theorem arg_01 (va : Value) (w : World) : Calls Tryd.prog 13 #[va, .string ⟨#[48, 49]⟩] w fun e w' => e = .returned (.tuple #[.string ⟨#[]⟩, .bool false, .int .i64 1]) ∧ w = w' :=
  arg_zero va ⟨#[48, 49]⟩ w (by decide) (by decide)
theorem pjoin_ab (va : Value) (w : World) (h : Rd w va 2 (strs [⟨#[97]⟩, ⟨#[98]⟩])) : Calls Tryd.prog 15 #[va, .string ⟨#[58, 59]⟩, .bool true] w fun e w' => e = .returned (.string ⟨#[97, 58, 98]⟩) ∧ Below w.heap.size w w' :=
  (pjoin_any va [⟨#[97]⟩, ⟨#[98]⟩] ⟨#[58, 59]⟩ true w h (by decide) (by decide) (by decide)).mono fun e w' ⟨he, hb⟩ => ⟨by rw [he]; rfl, hb⟩
theorem trim_a (v : Value) (w : World) (h : Rd w v 2 (chs [(42, false), (47, false)])) : Calls Tryd.prog 8 #[.int .i64 7, .string ⟨#[97, 47, 98, 47, 99]⟩, v] w fun e w' => e = .returned (.tuple #[.string ⟨#[99]⟩, .int .i64 0]) ∧ Below w.heap.size w w' := by
  refine (trim_any 7 ⟨#[97, 47, 98, 47, 99]⟩ v [(42, false), (47, false)] w h (by decide) (by decide) (by decide) (by decide)).mono fun e w' ⟨he, hb⟩ => ⟨?_, hb⟩
  rw [he]
  have e1 : trimL 7 [97, 47, 98, 47, 99] [(42, false), (47, false)] = [99] := by decide +kernel
  exact congrArg (fun x : List UInt8 => Ending.returned (.tuple #[.string ⟨x.toArray⟩, .int .i64 0])) e1
theorem trim_b (v : Value) (w : World) (h : Rd w v 2 (chs [(47, false), (42, false)])) : Calls Tryd.prog 8 #[.int .i64 8, .string ⟨#[97, 47, 98, 47, 99]⟩, v] w fun e w' => e = .returned (.tuple #[.string ⟨#[97, 47, 98]⟩, .int .i64 0]) ∧ Below w.heap.size w w' := by
  refine (trim_any 8 ⟨#[97, 47, 98, 47, 99]⟩ v [(47, false), (42, false)] w h (by decide) (by decide) (by decide) (by decide)).mono fun e w' ⟨he, hb⟩ => ⟨?_, hb⟩
  rw [he]
  have e1 : trimL 8 [97, 47, 98, 47, 99] [(47, false), (42, false)] = [97, 47, 98] := by decide +kernel
  exact congrArg (fun x : List UInt8 => Ending.returned (.tuple #[.string ⟨x.toArray⟩, .int .i64 0])) e1
end Go.Proofs.YthnmdhcgnimdfaaDoor
