/- The walk of sums.deep. -/
import Derived.Test.YtadmmmehphhecaaGreatDoorLd
import Derived.Test.YtadmmmehphhecaaGreatDoorA
import Derived.IntWalk
set_option linter.unusedVariables false
set_option linter.unusedSimpArgs false
namespace Go.Proofs.YtadmmmehphhecaaGreatDoor
open Go.RowKit
def DeepC (m : Nat) (e : Ex) : Prop := ∀ (w : World) (P : Nat → Prop) (v : Value) (mi : Int), mi = (m : Int) → RdX w P e v → Calls Tryz.prog 31 #[v, .int .i64 mi] w fun x w' => x = .returned (.int .i64 (deepF m e : Int)) ∧ Below w.heap.size w w'
def maxT (m : Nat) (l : Exs) (k : Nat) : Nat := ((l.toL.take k).map (deepF m)).foldr max 0
theorem DeepC.call {m : Nat} {e : Ex} (h : DeepC m e) (w : World) (P : Nat → Prop) (v : Value) (mi : Int) (hm : mi = (m : Int)) (hr : RdX w P e v) : Calls Tryz.prog 31 #[v, .int .i64 mi] w fun x w' => x = .returned (.int .i64 (deepF m e : Int)) ∧ Below w.heap.size w w' := h w P v mi hm hr
theorem maxT_all (m : Nat) : ∀ (l : Exs), ((l.toL).map (deepF m)).foldr max 0 = deepL m l
  | .nil => by simp [Exs.toL, deepL]
  | .cons e r => by simp [Exs.toL, deepL, maxT_all m r]
theorem foldr_max (l : List Nat) (a : Nat) : (l ++ [a]).foldr max 0 = max (l.foldr max 0) a := by
  induction l with
  | nil => simp
  | cons x r ih => simp only [List.cons_append, List.foldr_cons, ih]; omega
theorem maxT_step (m : Nat) (l : Exs) (k : Nat) (h : k < l.toL.length) : maxT m l (k + 1) = max (maxT m l k) (deepF m l.toL[k]) := by
  unfold maxT
  rw [List.take_add_one, List.getElem?_eq_getElem h]
  simp only [Option.toList, List.map_append, List.map_cons, List.map_nil]
  exact foldr_max _ _
theorem RdL.form_ {w : World} {P : Nat → Prop} {l : Exs} {A : Option Addr} (h : RdL w P l A) (h0 : 0 < l.len) : ∃ b off, A = some ⟨b, off, none⟩ := by
  cases l with
  | nil => simp [Exs.len] at h0
  | cons e r =>
    unfold RdL at h
    obtain ⟨b, off, c0, c1, c2, c3, h1, _⟩ := h
    exact ⟨b, off, h1⟩
theorem RdX.alloc_ {w : World} {P : Nat → Prop} {e : Ex} {v : Value} (h : RdX w P e v) (o : Obj) : RdX (w.alloc o) P e v := h.below ((Below.refl _ _).alloc (Nat.le_refl _) o)
theorem bel_al {w wr w1 : World} {o : Obj} (h : Below w.heap.size w wr) (k : Below (wr.alloc o).heap.size (wr.alloc o) w1) : Below w.heap.size w w1 :=
  (h.alloc h.size o).trans (k.mono (by have := h.size; simp; omega))
theorem deepF_le (m : Nat) (e : Ex) : deepF m e ≤ m + 1 := by rw [deep_same]; omega
set_option maxRecDepth 100000 in
set_option maxHeartbeats 2000000 in
theorem deep_step (m : Nat) (e : Ex) (hm : m ≤ 1000) (hn : e.kids.len ≤ 100000) (hk : ∀ k (h : k < e.kids.toL.length), DeepC m e.kids.toL[k]) : DeepC (m + 1) e := by
  intro w P v mi hmi hr
  subst hmi
  obtain ⟨A, cap, rfl, hcap, hkids⟩ := hr.form
  have HKI := hid hkids
  have HK := hid hk
  clear hk hkids hr
  have hgt : (0 : Int) < ((m + 1 : Nat) : Int) := by omega
  go_enter Tryz.func31, Tryz.ntmps31
  go_wp2_with fail
  obtain ⟨W0, hW0⟩ : ∃ W0, W0 = w.alloc (.cells #[.string ⟨e.op.toArray⟩, .int .i64 e.num, .string ⟨e.name.toArray⟩, .slice A e.kids.len cap] 30) := ⟨_, rfl⟩
  have HW0 := hid (show Below w.heap.size w W0 by rw [hW0]; exact (Below.refl _ _).alloc (Nat.le_refl _) _)
  rw [← hW0]
  clear hW0
  go_loopw [5, 7, 11] (fun v5 v7 v11 wr => ∃ k : Nat, k ≤ e.kids.len ∧ v11 = .int .i64 k ∧ v5 = .int .i64 (maxT m e.kids k : Int) ∧ Hid (Below w.heap.size w wr)) (fun v5 v7 v11 _ => e.kids.len - (intOf v11).toNat)
  case atStart => exact ⟨0, Nat.zero_le _, rfl, rfl, HW0⟩
  case round =>
    obtain ⟨k, hk, rfl, rfl, HB⟩ := hrel
    by_cases hlt : k < e.kids.len
    · have hkl : k < e.kids.toL.length := by rw [Exs.toL_len]; exact hlt
      obtain ⟨b, off, rfl⟩ := HKI.out.form_ (by omega)
      obtain ⟨A2, cap2, _, q0, q1, q2, q3, hx⟩ := RdL.kid e.kids b off k hkl HKI.out
      have q0 := bel_cell HB.out q0
      have q1 := bel_cell HB.out q1
      have q2 := bel_cell HB.out q2
      have q3 := bel_cell HB.out q3
      have HX := hid (hx.below HB.out)
      have HST := hid (maxT_step m e.kids k hkl)
      clear hx
      have hsub : wrap64 (((m + 1 : Nat) : Int) - 1) = (m : Int) := by unfold wrap64; omega
      have hB := HB.out
      go_wp2_with fail
      ((with_reducible refine ((HK.out k hkl).call _ P _ _ (by first | rfl | exact hsub | omega) (HX.out.alloc_ _)).mono ?_); rintro e1 w1 ⟨rfl, hb1⟩)
      have HB1 := hid (bel_al HB.out hb1)
      go_wp2_with fail
      · go_round
        case rel => exact ⟨_, _, _, ⟨k + 1, by omega, rfl, by rw [HST.out, Nat.max_eq_right (by omega)]⟩, rfl, rfl, rfl⟩
        case measure => simp [intOf]; omega
      · go_round
        case rel => exact ⟨_, _, _, ⟨k + 1, by omega, rfl, by rw [HST.out, Nat.max_eq_left (by omega)]⟩, rfl, rfl, rfl⟩
        case measure => simp [intOf]; omega
    · go_wp2_with fail
      go_ret
      have h1 : maxT m e.kids k = deepL m e.kids := by rw [show k = e.kids.toL.length by rw [Exs.toL_len]; omega]; unfold maxT; rw [List.take_length]; exact maxT_all m e.kids
      refine ⟨ret_int ?_, HB.out⟩
      have h2 := deepL_same m e.kids
      have h3 : deepF (m + 1) e = deepL m e.kids + 1 := by cases e; rfl
      rw [h1, h3]
      unfold wrap64; omega
set_option maxRecDepth 100000 in
set_option maxHeartbeats 2000000 in
theorem deep_zero (e : Ex) (hn : e.kids.len ≤ 100000) : DeepC 0 e := by
  intro w P v mi hmi hr
  subst hmi
  obtain ⟨A, cap, rfl, hcap, hkids⟩ := hr.form
  have HKI := hid hkids
  clear hkids hr
  go_enter Tryz.func31, Tryz.ntmps31
  go_wp2_with fail
  obtain ⟨W0, hW0⟩ : ∃ W0, W0 = w.alloc (.cells #[.string ⟨e.op.toArray⟩, .int .i64 e.num, .string ⟨e.name.toArray⟩, .slice A e.kids.len cap] 30) := ⟨_, rfl⟩
  have HW0 := hid (show Below w.heap.size w W0 by rw [hW0]; exact (Below.refl _ _).alloc (Nat.le_refl _) _)
  rw [← hW0]
  clear hW0
  go_loopw [5, 7, 11] (fun v5 v7 v11 wr => ∃ k : Nat, k ≤ e.kids.len ∧ v11 = .int .i64 k ∧ v5 = .int .i64 0 ∧ Hid (Below w.heap.size w wr)) (fun v5 v7 v11 _ => e.kids.len - (intOf v11).toNat)
  case atStart => exact ⟨0, Nat.zero_le _, rfl, rfl, HW0⟩
  case round =>
    obtain ⟨k, hk, rfl, rfl, HB⟩ := hrel
    by_cases hlt : k < e.kids.len
    · have hkl : k < e.kids.toL.length := by rw [Exs.toL_len]; exact hlt
      obtain ⟨b, off, rfl⟩ := HKI.out.form_ (by omega)
      obtain ⟨A2, cap2, _, q0, q1, q2, q3, hx⟩ := RdL.kid e.kids b off k hkl HKI.out
      have q0 := bel_cell HB.out q0
      have q1 := bel_cell HB.out q1
      have q2 := bel_cell HB.out q2
      have q3 := bel_cell HB.out q3
      have HB1 := hid (HB.out.alloc HB.out.size (.cells #[.string ⟨e.kids.toL[k].op.toArray⟩, .int .i64 e.kids.toL[k].num, .string ⟨e.kids.toL[k].name.toArray⟩, .slice A2 e.kids.toL[k].kids.len cap2] 30))
      clear hx
      go_wp2_with fail
      go_round
      case rel => exact ⟨k + 1, by omega, rfl, rfl, HB1⟩
      case measure => simp [intOf]; omega
    · go_wp2_with fail
      go_ret
      refine ⟨ret_int ?_, HB.out⟩
      have h3 : deepF 0 e = 1 := by cases e; rfl
      rw [h3]; rfl
end Go.Proofs.YtadmmmehphhecaaGreatDoor
