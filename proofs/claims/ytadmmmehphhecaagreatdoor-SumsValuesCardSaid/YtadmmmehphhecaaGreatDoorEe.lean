/- whelkref03.number, whatever the base: the same as sums.constant's number, end and goodness. -/
import Derived.Test.YtadmmmehphhecaaGreatDoorEc
import Derived.Test.YtadmmmehphhecaaGreatDoorEd
set_option linter.unusedVariables false
set_option linter.unusedSimpArgs false
namespace Go.Proofs.YtadmmmehphhecaaGreatDoor
open Go.RowKit
def RNumPost (l : List UInt8) (j : Nat) (w : World) (e : Ending) (w' : World) : Prop :=
  w = w' ∧ ((∃ n, numF l = some n ∧ n < 18446744073709551616 ∧ e = .returned (.tuple #[.int .u64 (n : Int), .int .i64 ((j + endF l : Nat) : Int), .bool true])) ∨
    (numF l = none ∧ ∃ x : Nat, x < 18446744073709551616 ∧ e = .returned (.tuple #[.int .u64 (x : Int), .int .i64 ((j + endF l : Nat) : Int), .bool false])))
theorem RNum.post {B to j : Nat} {l : List UInt8} {w w' : World} {e : Ending} (h : RNum B (digsF l) to w e w') (hB : baseF (kindF l) = B) (hto : to = j + endF l) (hne : digsF l ≠ []) : RNumPost l j w e w' := by
  obtain ⟨rfl, x, o, ⟨hx, hst⟩, rfl⟩ := h
  subst hto
  refine ⟨rfl, ?_⟩
  rw [List.take_length] at hst
  have hn : numF l = parseB B 0 (digsF l) := by unfold numF; rw [if_neg hne, hB]
  rcases hst with ⟨a, h1, rfl, rfl⟩ | ⟨h1, rfl⟩
  · exact .inl ⟨x, hn.trans h1, hx, rfl⟩
  · exact .inr ⟨hn.trans h1, x, hx, rfl⟩
theorem drop_one (s : ByteArray) (j : Nat) (h : j < s.size) : s.data.toList.drop j = s[j] :: s.data.toList.drop (j + 1) := by
  have hsl : s.data.toList.length = s.size := by simp
  rw [List.drop_eq_getElem_cons (by rw [hsl]; exact h), Array.getElem_toList]; rfl
theorem tw_ne {f : UInt8 → Bool} {c : UInt8} {r : List UInt8} (h : f c = true) : (c :: r).takeWhile f ≠ [] := by
  rw [List.takeWhile_cons, h]; simp
theorem rnumber_any (s : ByteArray) (j : Nat) (w : World) (hs : s.size ≤ 100000) (hj : j < s.size) (hd : digB s[j] = true) : Calls Tryz.prog 27 #[.string s, .int .i64 (j : Int)] w (RNumPost (s.data.toList.drop j) j w) := by
  have h1 := drop_one s j hj
  by_cases h0 : s[j].toNat = 48
  · have ho : octB s[j] = true := by simp [octB, h0]
    by_cases h2 : j + 2 < s.size
    · have e2 := drop_one s (j + 1) (by omega)
      have e3 := drop_one s (j + 1 + 1) (by omega)
      have hl : s.data.toList.drop j = s[j] :: s[j + 1] :: s[j + 2] :: s.data.toList.drop (j + 1 + 1 + 1) := by rw [h1, e2, e3]
      have hk : kindF (s.data.toList.drop j) = if (s[j + 1].toNat == 120 || s[j + 1].toNat == 88) = true ∧ hexB s[j + 2] = true then 2 else 1 := by
        rw [hl]; exact if_pos h0
      by_cases hx : (s[j + 1].toNat == 120 || s[j + 1].toNat == 88) = true ∧ hexB s[j + 2] = true
      · rw [if_pos hx] at hk
        have hdd : digsF (s.data.toList.drop j) = (s.data.toList.drop (j + 2)).takeWhile hexB := by
          unfold digsF; rw [hk, List.drop_drop]; rfl
        have hne : digsF (s.data.toList.drop j) ≠ [] := by rw [hdd, drop_one s (j + 2) h2]; exact tw_ne hx.2
        have hv0 : 0 ≤ rdF s[j + 2] 16 := by rw [((rd_hex _).1 hx.2).1]; omega
        have hW : Way s (j + 2) 16 (digsF (s.data.toList.drop j)) := by rw [hdd]; exact Way.mk_ (by omega) rd_hex
        have hend : j + 2 + (digsF (s.data.toList.drop j)).length = j + endF (s.data.toList.drop j) := by unfold endF; rw [hk]; show _ = j + (2 + _); omega
        have hB : baseF (kindF (s.data.toList.drop j)) = 16 := by rw [hk]; rfl
        rcases Bool.or_eq_true_iff.1 hx.1 with h3 | h3
        · exact (rnum_hexx s j w hs hj h0 h2 (by simpa using h3) hv0 _ hW).mono fun _ _ h => h.post hB hend hne
        · exact (rnum_hexX s j w hs hj h0 h2 (by simpa using h3) hv0 _ hW).mono fun _ _ h => h.post hB hend hne
      · rw [if_neg hx] at hk
        have hdd : digsF (s.data.toList.drop j) = (s.data.toList.drop j).takeWhile octB := by unfold digsF; rw [hk]; rfl
        have hne : digsF (s.data.toList.drop j) ≠ [] := by rw [hdd, h1]; exact tw_ne ho
        have hW : Way s j 8 (digsF (s.data.toList.drop j)) := by rw [hdd]; exact Way.mk_ (by omega) rd_oct
        have hend : j + (digsF (s.data.toList.drop j)).length = j + endF (s.data.toList.drop j) := by unfold endF; rw [hk]; show _ = j + (0 + _); omega
        have hB : baseF (kindF (s.data.toList.drop j)) = 8 := by rw [hk]; rfl
        by_cases h3 : s[j + 1].toNat = 120
        · have hh : hexB s[j + 2] = false := by
            cases h : hexB s[j + 2]
            · rfl
            · exact (hx ⟨by simp [h3], h⟩).elim
          exact (rnum_octx s j w hs hj h0 h2 h3 ((rd_hex _).2 hh) _ hW).mono fun _ _ h => h.post hB hend hne
        · by_cases h4 : s[j + 1].toNat = 88
          · have hh : hexB s[j + 2] = false := by
              cases h : hexB s[j + 2]
              · rfl
              · exact (hx ⟨by simp [h4], h⟩).elim
            exact (rnum_octX s j w hs hj h0 h2 h4 ((rd_hex _).2 hh) _ hW).mono fun _ _ h => h.post hB hend hne
          · exact (rnum_oct2 s j w hs hj h0 h2 h3 h4 _ hW).mono fun _ _ h => h.post hB hend hne
    · have hk : kindF (s.data.toList.drop j) = 1 := by
        rw [h1]
        have hlen : (s.data.toList.drop (j + 1)).length < 2 := by rw [List.length_drop]; simp; omega
        generalize s.data.toList.drop (j + 1) = r at hlen
        match r, hlen with
        | [], _ => exact if_pos h0
        | [x], _ => exact if_pos h0
      have hdd : digsF (s.data.toList.drop j) = (s.data.toList.drop j).takeWhile octB := by unfold digsF; rw [hk]; rfl
      have hne : digsF (s.data.toList.drop j) ≠ [] := by rw [hdd, h1]; exact tw_ne ho
      have hW : Way s j 8 (digsF (s.data.toList.drop j)) := by rw [hdd]; exact Way.mk_ (by omega) rd_oct
      have hend : j + (digsF (s.data.toList.drop j)).length = j + endF (s.data.toList.drop j) := by unfold endF; rw [hk]; show _ = j + (0 + _); omega
      have hB : baseF (kindF (s.data.toList.drop j)) = 8 := by rw [hk]; rfl
      exact (rnum_oct1 s j w hs hj h0 h2 _ hW).mono fun _ _ h => h.post hB hend hne
  · have hk : kindF (s.data.toList.drop j) = 0 := by
      rw [h1]
      generalize s.data.toList.drop (j + 1) = r
      match r with
      | [] => exact if_neg h0
      | [x] => exact if_neg h0
      | x :: y :: z => exact if_neg h0
    have hdd : digsF (s.data.toList.drop j) = (s.data.toList.drop j).takeWhile digB := by unfold digsF; rw [hk]; rfl
    have hne : digsF (s.data.toList.drop j) ≠ [] := by rw [hdd, h1]; exact tw_ne hd
    have hW : Way s j 10 (digsF (s.data.toList.drop j)) := by rw [hdd]; exact Way.mk_ (by omega) rd_dig
    have hend : j + (digsF (s.data.toList.drop j)).length = j + endF (s.data.toList.drop j) := by unfold endF; rw [hk]; show _ = j + (0 + _); omega
    have hB : baseF (kindF (s.data.toList.drop j)) = 10 := by rw [hk]; rfl
    exact (rnum_dec s j w hs hj h0 _ hW).mono fun _ _ h => h.post hB hend hne
end Go.Proofs.YtadmmmehphhecaaGreatDoor
