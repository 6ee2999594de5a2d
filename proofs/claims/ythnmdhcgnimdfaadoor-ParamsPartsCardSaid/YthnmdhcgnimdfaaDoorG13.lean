/- The walk of whelkref15.Join: up to thirty texts of up to a hundred bytes. -/
import Derived.Test.YthnmdhcgnimdfaaDoorG12
set_option linter.unusedVariables false
set_option linter.unusedSimpArgs false
namespace Go.Proofs.YthnmdhcgnimdfaaDoor
open Go.RowKit
attribute [local go_sem ↓] Go.wp_at_zero Go.wp_at_succ
def jn (l : List ByteArray) (sep : List UInt8) : List UInt8 := Lib.join (l.map (·.data.toList)) sep
theorem joinTail_snoc (sep : List UInt8) (r : List (List UInt8)) (x : List UInt8) : Lib.joinTail sep (r ++ [x]) = Lib.joinTail sep r ++ (sep ++ x) := by simp [Lib.joinTail]
theorem jn_step (l : List ByteArray) (sep : List UInt8) (k : Nat) (h : k < l.length) : jn (l.take (k + 1)) sep = jn (l.take k) sep ++ ((if k = 0 then [] else sep) ++ l[k].data.toList) := by
  cases l with
  | nil => simp at h
  | cons x r =>
    cases k with
    | zero => simp [jn, Lib.join_one, Lib.join_nil]
    | succ k =>
      have hk : k < r.length := by simpa using h
      unfold jn
      rw [List.take_succ_cons, List.take_succ_cons, List.map_cons, List.map_cons, Lib.join_cons, Lib.join_cons, List.take_succ_eq_append_getElem hk, List.map_append, List.map_cons, List.map_nil, joinTail_snoc, if_neg (by omega), List.append_assoc]
      rfl
theorem jn_len (l : List ByteArray) (sep : List UInt8) (hs : ∀ s ∈ l, s.size ≤ 100) (hp : sep.length ≤ 1) (k : Nat) (hk : k ≤ l.length) : (jn (l.take k) sep).length ≤ k * 101 := by
  induction k with
  | zero => simp [jn, Lib.join_nil]
  | succ k ih =>
    have hlt : k < l.length := by omega
    have h1 := ih (by omega)
    have h2 := hs l[k] (List.getElem_mem hlt)
    have h3 : l[k].data.toList.length = l[k].size := by simp
    have h4 : (if k = 0 then ([] : List UInt8) else sep).length ≤ 1 := by split <;> simp [hp]
    rw [jn_step l sep k hlt, List.length_append, List.length_append, h3]
    omega
theorem str_app2 (a : List UInt8) (s : ByteArray) : (⟨a.toArray⟩ : ByteArray) ++ s = ⟨(a ++ s.data.toList).toArray⟩ := by apply ByteArray.ext; simp [ByteArray.data_append]
theorem sepOf_len (sep : ByteArray) (set : Bool) : (sepOf sep set).data.toList.length ≤ 1 := by
  unfold sepOf
  split
  · split
    · rename_i h; simp; omega
    · rw [ext_take, List.length_take]; omega
  · decide
set_option maxRecDepth 100000 in
set_option maxHeartbeats 2000000 in
theorem refjoin_any (va : Value) (l : List ByteArray) (sep : ByteArray) (set : Bool) (w : World) (h : Rd w va l.length (strs l)) (hl : l.length ≤ 30) (hs : ∀ s ∈ l, s.size ≤ 100) (hs9 : sep.size ≤ 1000) :
    Calls Tryd.prog 16 #[va, .string sep, .bool set] w fun e w' => e = .returned (.string ⟨(jn l (sepOf sep set).data.toList).toArray⟩) ∧ w = w' := by
  obtain ⟨A, cap, rfl, hcap, hx⟩ := h.open_
  clear h
  have hpl := sepOf_len sep set
  have hset : set = false ∨ (set = true ∧ sep.size = 0) ∨ (set = true ∧ 0 < sep.size) := by
    cases set
    · exact .inl rfl
    · rcases Nat.eq_zero_or_pos sep.size with h | h
      · exact .inr (.inl ⟨rfl, h⟩)
      · exact .inr (.inr ⟨rfl, h⟩)
  have HSO : Hid ((set = false → sepOf sep set = ⟨#[32]⟩) ∧ (set = true → 0 < sep.size → sepOf sep set = sep.extract 0 1) ∧ (set = true → sep.size = 0 → (sepOf sep set).data.toList = [])) := hid
    ⟨fun h => by rw [h]; rfl, fun h h2 => by unfold sepOf; rw [if_pos h, if_neg (by omega)], fun h h2 => by unfold sepOf; rw [if_pos h, if_pos h2]; exact List.eq_nil_of_length_eq_zero (by simpa using h2)⟩
  obtain ⟨SL, hSL⟩ : ∃ SL, SL = (sepOf sep set).data.toList := ⟨_, rfl⟩
  rw [← hSL] at hpl ⊢
  have HSL := hid hSL
  clear hSL
  go_enter Tryd.func16, Tryd.ntmps16
  go_wp2_with fail
  go_loop [7, 8] (fun vo vi => ∃ k : Nat, k ≤ l.length ∧ vi = .int .i64 k ∧ vo = .string ⟨(jn (l.take k) SL).toArray⟩) (fun _ vi => l.length - (intOf vi).toNat)
  case atStart => exact ⟨0, Nat.zero_le _, rfl, rfl⟩
  case round =>
    obtain ⟨k, hk, rfl, rfl⟩ := hrel
    by_cases hlt : k < l.length
    · rcases hx with hx | ⟨b, off, rfl, hc⟩
      · exact (strs_ne hlt hx).elim
      · have hcell := hc k _ (strs_at l k hlt)
        have hi0 : (0 : Int) ≤ (k : Int) := Int.natCast_nonneg _
        have hi1 : (k : Int) < (l.length : Int) := by omega
        have HS := hid (jn_step l SL k hlt)
        have hjl := jn_len l SL hs hpl k hk
        have hkl : k * 101 ≤ 3030 := by omega
        have hrs := hs l[k] (List.getElem_mem hlt)
        clear hc hs
        generalize l[k] = r at *
        generalize jn (l.take k) SL = J at *
        have hb1 : J.length + r.size ≤ 9223372036854775807 := by omega
        have hb2 : J.length + 1 ≤ 9223372036854775807 := by omega
        have hb3 : J.length + 1 + r.size ≤ 9223372036854775807 := by omega
        have hb4 : J.length ≤ 9223372036854775806 := by omega
        by_cases h0 : k = 0
        · have h0d : decide (0 < k) = false := by simp; omega
          have HF : Hid ((⟨J.toArray⟩ : ByteArray) ++ r = ⟨(jn (l.take (k + 1)) SL).toArray⟩) := hid (by rw [HS.out, if_pos h0, str_app2]; rfl)
          clear h0
          go_wp2_with fail
          go_round
          case rel => exact ⟨k + 1, by omega, by go_num, by rw [HF.out]⟩
          case measure => simp [intOf]; omega
        · have h0d : decide (0 < k) = true := by simp; omega
          rcases hset with hset | ⟨hset, hz⟩ | ⟨hset, hz⟩
          · subst hset
            have HF : Hid (((⟨J.toArray⟩ : ByteArray) ++ ⟨#[32]⟩) ++ r = ⟨(jn (l.take (k + 1)) SL).toArray⟩) := hid (by
              rw [HS.out, if_neg h0, str_app2, str_app2, HSL.out, HSO.out.1 rfl, List.append_assoc])
            clear h0
            go_wp2_with fail
            go_round
            case rel => exact ⟨k + 1, by omega, by go_num, by rw [HF.out]⟩
            case measure => simp [intOf]; omega
          · subst hset
            have hs0 : sep = ⟨#[]⟩ := by apply ByteArray.ext; exact Array.eq_empty_of_size_eq_zero hz
            have HF : Hid ((⟨J.toArray⟩ : ByteArray) ++ r = ⟨(jn (l.take (k + 1)) SL).toArray⟩) := hid (by
              rw [HS.out, if_neg h0, str_app2, HSL.out, HSO.out.2.2 rfl hz]; rfl)
            clear h0
            subst hs0
            go_wp2_with fail
            go_round
            case rel => exact ⟨k + 1, by omega, by go_num, by rw [HF.out]⟩
            case measure => simp [intOf]; omega
          · subst hset
            obtain ⟨hne, hne2⟩ := ne_facts sep hz
            have h1 : (1 : Int) ≤ (sep.size : Int) := by omega
            have hsl : ∀ w, (Instr.slice 9 (.string sep) none (some (.int .i64 1)) none).run Tryd.prog w = .ok (.string (sep.extract 0 1)) w := fun w => by go_simp
            have hez : (sep.extract 0 1).size = 1 := by simp; omega
            have HF : Hid (((⟨J.toArray⟩ : ByteArray) ++ sep.extract 0 1) ++ r = ⟨(jn (l.take (k + 1)) SL).toArray⟩) := hid (by
              rw [HS.out, if_neg h0, str_app2, str_app2, HSL.out, HSO.out.2.1 rfl hz, List.append_assoc])
            generalize sep.extract 0 1 = e1 at *
            clear h0
            go_wp2_with fail
            go_round
            case rel => exact ⟨k + 1, by omega, by go_num, by rw [HF.out]⟩
            case measure => simp [intOf]; omega
    · obtain rfl : k = l.length := by omega
      have HT := hid (List.take_length (l := l))
      clear hx hs
      go_wp2_with fail
      go_ret
      exact ⟨rfl, rfl⟩
end Go.Proofs.YthnmdhcgnimdfaaDoor
