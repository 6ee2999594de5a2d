/- The walks of globs.Head, globs.Tail and params.Trim: values of up to a hundred thousand bytes (Trim: of any length), patterns of up to ten thousand bytes. -/
import Derived.Test.YthnmdhcgnimdfaaDoorG7
set_option linter.unusedVariables false
set_option linter.unusedSimpArgs false
namespace Go.Proofs.YthnmdhcgnimdfaaDoor
open Go.RowKit
attribute [local go_sem ↓] Go.wp_at_zero Go.wp_at_succ
/-- the first, or the last, number below m of which f holds; -1: there is none -/
def best (f : Nat → Bool) (lg : Bool) : Nat → Int
  | 0 => -1
  | m + 1 => if f m = true ∧ (lg = true ∨ best f lg m < 0) then (m : Int) else best f lg m
theorem best_bd (f : Nat → Bool) (lg : Bool) (m : Nat) : -1 ≤ best f lg m ∧ best f lg m < (m : Int) := by
  induction m with
  | zero => simp [best]
  | succ m ih => unfold best; split <;> omega
theorem best_stay (f : Nat → Bool) (m : Nat) (h : 0 ≤ best f false m) (j : Nat) : best f false (m + j) = best f false m := by
  induction j with
  | zero => rfl
  | succ j ih => rw [← Nat.add_assoc, best, ih, if_neg (by simp; intro _; omega)]
theorem best_yes (f : Nat → Bool) (lg : Bool) (m : Nat) (h : f m = true) (h2 : lg = true ∨ best f lg m < 0) : best f lg (m + 1) = m := by rw [best, if_pos ⟨h, h2⟩]
theorem best_no (f : Nat → Bool) (lg : Bool) (m : Nat) (h : f m = false) : best f lg (m + 1) = best f lg m := by rw [best, if_neg (by simp [h])]
theorem ext_take (s : ByteArray) (n : Nat) : (s.extract 0 n).data.toList = s.data.toList.take n := by simp [ByteArray.data_extract]
theorem ext_drop (s : ByteArray) (n : Nat) : (s.extract n s.size).data.toList = s.data.toList.drop n := by
  simp only [ByteArray.data_extract, Array.toList_extract, List.extract_eq_take_drop]
  apply List.take_of_length_le; simp
def hd (p : List It) (S : List UInt8) (n : Nat) : Bool := M p (S.take n)
def tl (p : List It) (S : List UInt8) (n : Nat) : Bool := M p (S.drop (S.length - n))
set_option maxRecDepth 100000 in
set_option maxHeartbeats 2000000 in
theorem head_any (v : Value) (p : List It) (s : ByteArray) (lg : Bool) (w : World) (h : RdI w v p) (hp : p.length ≤ 100000) (hs : s.size ≤ 100000) (hr : ∀ x ∈ p, x.rs.length ≤ 1000000) :
    Calls Tryd.prog 23 #[v, .string s, .bool lg] w fun e w' => e = .returned (.int .i64 (best (hd p s.data.toList) lg (s.size + 1))) ∧ Below w.heap.size w w' := by
  have HR := hid h
  clear h
  go_enter Tryd.func23, Tryd.ntmps23
  go_wp2_with fail
  go_loopw [7, 8] (fun va vn wr => ∃ (n : Nat) (at_ : Int), n ≤ s.size + 1 ∧ vn = .int .i64 n ∧ va = .int .i64 at_ ∧ Hid (at_ = best (hd p s.data.toList) lg n) ∧ Below w.heap.size w wr) (fun _ vn _ => s.size + 1 - (intOf vn).toNat)
  case atStart => exact ⟨0, -1, by omega, rfl, rfl, hid rfl, Below.refl _ _⟩
  case round =>
    obtain ⟨n, at_, hn, rfl, rfl, HA, hb⟩ := hrel
    have hbd := best_bd (hd p s.data.toList) lg n
    rw [← HA.out] at hbd
    obtain ⟨hb1, hb2⟩ := hbd
    by_cases hlt : n ≤ s.size
    · by_cases hgo : lg = true ∨ at_ < 0
      · have HGO := hid hgo
        have HM := hid (ext_take s n)
        have hes : (s.extract 0 n).size ≤ 100000 := by
          have := congrArg List.length (ext_take s n); simp at this; simp; omega
        have hgo2 : (lg = true) ∨ (lg = false ∧ at_ < 0) := by cases lg <;> simp_all
        cases hf : hd p s.data.toList n
        · have HN : Hid (at_ = best (hd p s.data.toList) lg (n + 1)) := hid (by rw [best_no _ _ _ hf]; exact HA.out)
          have HF : Hid (M p (s.extract 0 n).data.toList = false) := hid (by rw [HM.out]; exact hf)
          clear hf hgo
          rcases hgo2 with rfl | ⟨rfl, hneg⟩
          all_goals
            go_wp2_with fail
            ((with_reducible refine (match_any v p _ _ (HR.out.below hb) hp hes hr).mono ?_); rintro e w1 ⟨rfl, hb3⟩)
            rw [HF.out]
            have hbF := hb.trans (hb3.mono hb.size)
            clear hb3
            go_wp2_with fail
            go_roundw
            case rel => exact ⟨n + 1, at_, by omega, by go_num, rfl, HN, hbF⟩
            case measure => simp [intOf]; omega
        · have HN : Hid ((n : Int) = best (hd p s.data.toList) lg (n + 1)) := hid (by rw [best_yes _ _ _ hf (by rw [← HA.out]; exact hgo)])
          have HF : Hid (M p (s.extract 0 n).data.toList = true) := hid (by rw [HM.out]; exact hf)
          clear hf hgo
          rcases hgo2 with rfl | ⟨rfl, hneg⟩
          all_goals
            go_wp2_with fail
            ((with_reducible refine (match_any v p _ _ (HR.out.below hb) hp hes hr).mono ?_); rintro e w1 ⟨rfl, hb3⟩)
            rw [HF.out]
            have hbF := hb.trans (hb3.mono hb.size)
            clear hb3
            go_wp2_with fail
            go_roundw
            case rel => exact ⟨n + 1, n, by omega, by go_num, rfl, HN, hbF⟩
            case measure => simp [intOf]; omega
      · obtain rfl : lg = false := by cases lg; rfl; exact (hgo (.inl rfl)).elim
        have hnn : ¬ at_ < 0 := fun h => hgo (.inr h)
        have HE : Hid (at_ = best (hd p s.data.toList) false (s.size + 1)) := hid (by
          rw [HA.out, ← best_stay _ n (by rw [← HA.out]; omega) (s.size + 1 - n)]; congr 1; omega)
        clear hgo HA
        go_wp2_with fail
        go_ret
        exact ⟨ret_int HE.out, hb⟩
    · obtain rfl : n = s.size + 1 := by omega
      have hnl : ¬ ((s.size : Int) + 1 ≤ (s.size : Int)) := by omega
      go_wp2_with fail
      go_ret
      exact ⟨ret_int HA.out, hb⟩
set_option maxRecDepth 100000 in
set_option maxHeartbeats 2000000 in
theorem tail_any (v : Value) (p : List It) (s : ByteArray) (lg : Bool) (w : World) (h : RdI w v p) (hp : p.length ≤ 100000) (hs : s.size ≤ 100000) (hr : ∀ x ∈ p, x.rs.length ≤ 1000000) :
    Calls Tryd.prog 24 #[v, .string s, .bool lg] w fun e w' => e = .returned (.int .i64 (best (tl p s.data.toList) lg (s.size + 1))) ∧ Below w.heap.size w w' := by
  have HR := hid h
  clear h
  go_enter Tryd.func24, Tryd.ntmps24
  go_wp2_with fail
  go_loopw [7, 8] (fun va vn wr => ∃ (n : Nat) (at_ : Int), n ≤ s.size + 1 ∧ vn = .int .i64 n ∧ va = .int .i64 at_ ∧ Hid (at_ = best (tl p s.data.toList) lg n) ∧ Below w.heap.size w wr) (fun _ vn _ => s.size + 1 - (intOf vn).toNat)
  case atStart => exact ⟨0, -1, by omega, rfl, rfl, hid rfl, Below.refl _ _⟩
  case round =>
    obtain ⟨n, at_, hn, rfl, rfl, HA, hb⟩ := hrel
    have hbd := best_bd (tl p s.data.toList) lg n
    rw [← HA.out] at hbd
    obtain ⟨hb1, hb2⟩ := hbd
    by_cases hlt : n ≤ s.size
    · by_cases hgo : lg = true ∨ at_ < 0
      · have HGO := hid hgo
        have hsl : s.data.toList.length = s.size := by simp
        have HM : Hid ((s.extract (s.size - n) s.size).data.toList = s.data.toList.drop (s.data.toList.length - n)) := hid (by rw [hsl]; exact ext_drop s (s.size - n))
        clear hsl
        have hsub : ((s.size : Int) - (n : Int)).toNat = s.size - n := by omega
        have hes : (s.extract (s.size - n) s.size).size ≤ 100000 := by
          have := congrArg List.length (ext_drop s (s.size - n)); simp at this; simp; omega
        have hgo2 : (lg = true) ∨ (lg = false ∧ at_ < 0) := by cases lg <;> simp_all
        cases hf : tl p s.data.toList n
        · have HN : Hid (at_ = best (tl p s.data.toList) lg (n + 1)) := hid (by rw [best_no _ _ _ hf]; exact HA.out)
          have HF : Hid (M p (s.extract (s.size - n) s.size).data.toList = false) := hid (by rw [HM.out]; exact hf)
          clear hf hgo
          rcases hgo2 with rfl | ⟨rfl, hneg⟩
          all_goals
            go_wp2_with fail
            ((with_reducible refine (match_any v p _ _ (HR.out.below hb) hp hes hr).mono ?_); rintro e w1 ⟨rfl, hb3⟩)
            rw [HF.out]
            have hbF := hb.trans (hb3.mono hb.size)
            clear hb3
            go_wp2_with fail
            go_roundw
            case rel => exact ⟨n + 1, at_, by omega, by go_num, rfl, HN, hbF⟩
            case measure => simp [intOf]; omega
        · have HN : Hid ((n : Int) = best (tl p s.data.toList) lg (n + 1)) := hid (by rw [best_yes _ _ _ hf (by rw [← HA.out]; exact hgo)])
          have HF : Hid (M p (s.extract (s.size - n) s.size).data.toList = true) := hid (by rw [HM.out]; exact hf)
          clear hf hgo
          rcases hgo2 with rfl | ⟨rfl, hneg⟩
          all_goals
            go_wp2_with fail
            ((with_reducible refine (match_any v p _ _ (HR.out.below hb) hp hes hr).mono ?_); rintro e w1 ⟨rfl, hb3⟩)
            rw [HF.out]
            have hbF := hb.trans (hb3.mono hb.size)
            clear hb3
            go_wp2_with fail
            go_roundw
            case rel => exact ⟨n + 1, n, by omega, by go_num, rfl, HN, hbF⟩
            case measure => simp [intOf]; omega
      · obtain rfl : lg = false := by cases lg; rfl; exact (hgo (.inl rfl)).elim
        have hnn : ¬ at_ < 0 := fun h => hgo (.inr h)
        have HE : Hid (at_ = best (tl p s.data.toList) false (s.size + 1)) := hid (by
          rw [HA.out, ← best_stay _ n (by rw [← HA.out]; omega) (s.size + 1 - n)]; congr 1; omega)
        clear hgo HA
        go_wp2_with fail
        go_ret
        exact ⟨ret_int HE.out, hb⟩
    · obtain rfl : n = s.size + 1 := by omega
      have hnl : ¬ ((s.size : Int) + 1 ≤ (s.size : Int)) := by omega
      go_wp2_with fail
      go_ret
      exact ⟨ret_int HA.out, hb⟩

def trimL (op : Int) (S : List UInt8) (t : List Ch) : List UInt8 :=
  if op ≤ 7 then S.drop (best (hd (compile t) S) (op == 7) (S.length + 1)).toNat
  else S.take (S.length - (best (tl (compile t) S) (op == 9) (S.length + 1)).toNat)
theorem few_gl (first : Bool) (rs : List Rg) (n : Nat) (t : List Ch) : ∀ {l : List Rg} {k : Nat}, gl first rs n t = some (l, k) → l.length ≤ rs.length + 4 * t.length := by
  intro l k h
  induction hm : t.length using Nat.strongRecOn generalizing first rs n t with
  | _ m ih =>
    cases t with
    | nil => rw [gl] at h; cases h
    | cons c r =>
      rw [gl] at h
      split at h
      · cases h; omega
      · cases ht : thingB c r with
        | none => rw [ht] at h; cases h
        | some p =>
          obtain ⟨l', k'⟩ := p
          have hle := thing_le ht
          rw [ht] at h
          simp at hm
          have := ih (r.drop (k' - 1)).length (by simp; omega) _ _ _ _ h rfl
          simp at this
          omega
theorem item1_few (c : Ch) (r : List Ch) : (item1 c r).1.rs.length ≤ 4 * (r.length + 1) := by
  unfold item1
  split
  · simp
  split
  · simp
  split
  · simp
  split
  · cases r <;> simp
  split
  · cases hg : grp r with
    | none => simp
    | some p =>
      obtain ⟨ng, l, k⟩ := p
      unfold grp at hg
      split at hg
      · cases h2 : gl true [] 1 (r.drop 1) with
        | none => rw [h2] at hg; cases hg
        | some q => have := few_gl _ _ _ _ h2; rw [h2] at hg; cases hg; simp at this ⊢; omega
      · cases h2 : gl true [] 0 r with
        | none => rw [h2] at hg; cases hg
        | some q => have := few_gl _ _ _ _ h2; rw [h2] at hg; cases hg; simp at this ⊢; omega
  · simp
theorem cgo_few (n : Nat) (out : List It) (t : List Ch) (h : ∀ x ∈ out, x.rs.length ≤ 4 * n) (ht : t.length ≤ n) : ∀ x ∈ cgo out t, x.rs.length ≤ 4 * n := by
  induction hm : t.length using Nat.strongRecOn generalizing out t with
  | _ m ih =>
    cases t with
    | nil => rw [cgo]; exact h
    | cons c r =>
      rw [cgo]
      simp at hm ht
      refine ih (r.drop ((item1 c r).2 - 1)).length (by simp; omega) _ _ ?_ (by simp; omega) rfl
      intro x hx
      unfold push at hx
      split at hx
      · exact h x hx
      · rcases List.mem_append.1 hx with hx | hx
        · exact h x hx
        · simp at hx; subst hx
          have := item1_few c r; omega
theorem compile_few (t : List Ch) : ∀ x ∈ compile t, x.rs.length ≤ 4 * t.length := cgo_few t.length [] t (by simp) (Nat.le_refl _)
theorem ret_str2 {a b : ByteArray} {u : Value} (h : a = b) : Ending.returned (.tuple #[.string a, u]) = .returned (.tuple #[.string b, u]) := by rw [h]
theorem str_eq (s : ByteArray) (l : List UInt8) (h : s.data.toList = l) : s = ⟨l.toArray⟩ := by
  apply ByteArray.ext; rw [← h]
set_option maxRecDepth 100000 in
set_option maxHeartbeats 2000000 in
theorem trim_any (op : Int) (s : ByteArray) (v : Value) (t : List Ch) (w : World) (h : Rd w v t.length (chs t)) (ht : t.length ≤ 10000) (hs : s.size ≤ 4096) (h6 : 6 ≤ op) (h9 : op ≤ 9) :
    Calls Tryd.prog 8 #[.int .i64 op, .string s, v] w fun e w' => e = .returned (.tuple #[.string ⟨(trimL op s.data.toList t).toArray⟩, .int .i64 0]) ∧ Below w.heap.size w w' := by
  obtain ⟨A, cap, rfl, _, _⟩ := h.open_
  have HR := hid h
  clear h
  have hsl : s.data.toList.length = s.size := by simp
  by_cases h7 : op ≤ 7
  · have HT : Hid (trimL op s.data.toList t = s.data.toList.drop (best (hd (compile t) s.data.toList) (op == 7) (s.size + 1)).toNat) := hid (by rw [trimL, if_pos h7, hsl])
    have hbd := best_bd (hd (compile t) s.data.toList) (op == 7) (s.size + 1)
    go_enter Tryd.func8, Tryd.ntmps8
    go_wp2_with fail
    ((with_reducible refine (compile_any _ t _ HR.out ht).mono ?_); rintro e w1 ⟨vp, rfl, hrp, hcl, hb1⟩)
    go_wp2_with fail
    ((with_reducible refine (head_any vp (compile t) s (op == 7) _ hrp (by omega) (by omega) (fun x hx => by have := compile_few t x hx; omega)).mono ?_); rintro e w2 ⟨rfl, hb2⟩)
    generalize best (hd (compile t) s.data.toList) (op == 7) (s.size + 1) = bb at *
    have hB := hb1.trans (hb2.mono hb1.size)
    clear hb1 hb2
    by_cases hp0 : 0 < bb
    · have HE := hid (ext_drop s bb.toNat)
      go_wp2_with fail
      go_ret2
      exact ⟨ret_str2 (str_eq _ _ (by rw [HT.out, ← HE.out])), hB⟩
    · have h0 : bb.toNat = 0 := by omega
      have HE : Hid (s.data.toList = trimL op s.data.toList t) := hid (by rw [HT.out, h0]; rfl)
      clear h0
      go_wp2_with fail
      go_ret2
      exact ⟨ret_str2 (str_eq _ _ HE.out), hB⟩
  · have HT : Hid (trimL op s.data.toList t = s.data.toList.take (s.size - (best (tl (compile t) s.data.toList) (op == 9) (s.size + 1)).toNat)) := hid (by rw [trimL, if_neg h7, hsl])
    have hbd := best_bd (tl (compile t) s.data.toList) (op == 9) (s.size + 1)
    go_enter Tryd.func8, Tryd.ntmps8
    go_wp2_with fail
    ((with_reducible refine (compile_any _ t _ HR.out ht).mono ?_); rintro e w1 ⟨vp, rfl, hrp, hcl, hb1⟩)
    go_wp2_with fail
    ((with_reducible refine (tail_any vp (compile t) s (op == 9) _ hrp (by omega) (by omega) (fun x hx => by have := compile_few t x hx; omega)).mono ?_); rintro e w2 ⟨rfl, hb2⟩)
    generalize best (tl (compile t) s.data.toList) (op == 9) (s.size + 1) = bb at *
    have hB := hb1.trans (hb2.mono hb1.size)
    clear hb1 hb2
    by_cases hp0 : 0 < bb
    · have HE := hid (ext_take s ((s.size : Int) - bb).toNat)
      have HN : Hid (((s.size : Int) - bb).toNat = s.size - bb.toNat) := hid (by omega)
      go_wp2_with fail
      go_ret2
      exact ⟨ret_str2 (str_eq _ _ (by rw [HT.out, ← HN.out, ← HE.out])), hB⟩
    · have h0 : bb.toNat = 0 := by omega
      have HE : Hid (s.data.toList = trimL op s.data.toList t) := hid (by rw [HT.out, h0, Nat.sub_zero, ← hsl, List.take_length])
      clear h0
      go_wp2_with fail
      go_ret2
      exact ⟨ret_str2 (str_eq _ _ HE.out), hB⟩
set_option maxHeartbeats 400000 in
theorem trim_arg (op : Int) (s : ByteArray) (v : Value) (w : World) (h : op < 6 ∨ 9 < op) :
    Calls Tryd.prog 8 #[.int .i64 op, .string s, v] w fun e w' => e = .returned (.tuple #[.string ⟨#[]⟩, .int .i64 1]) ∧ w = w' := by
  rcases h with h | h
  all_goals
    go_enter Tryd.func8, Tryd.ntmps8
    go_wp2_with fail
    go_ret2
    exact ⟨rfl, rfl⟩
set_option maxHeartbeats 400000 in
theorem trim_big (op : Int) (s : ByteArray) (v : Value) (w : World) (h6 : 6 ≤ op) (h9 : op ≤ 9) (hs : 4096 < s.size) (hs9 : s.size ≤ 9223372036854775807) :
    Calls Tryd.prog 8 #[.int .i64 op, .string s, v] w fun e w' => e = .returned (.tuple #[.string ⟨#[]⟩, .int .i64 21]) ∧ w = w' := by
  go_enter Tryd.func8, Tryd.ntmps8
  go_wp2_with fail
  go_ret2
  exact ⟨rfl, rfl⟩
end Go.Proofs.YthnmdhcgnimdfaaDoor
