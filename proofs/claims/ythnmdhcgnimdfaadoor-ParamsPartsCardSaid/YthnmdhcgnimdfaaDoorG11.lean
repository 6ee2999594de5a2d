/- The walks of few, Digit, params.Arg whole, whelkref15.Arg: both give the argument that a plain function says. -/
import Derived.Test.YthnmdhcgnimdfaaDoorNum
set_option linter.unusedVariables false
set_option linter.unusedSimpArgs false
namespace Go.Proofs.YthnmdhcgnimdfaaDoor
open Go.RowKit
attribute [local go_sem ↓] Go.wp_at_zero Go.wp_at_succ
def fewB (l : List ByteArray) : Bool := decide (l.length ≤ 30) && l.all fun s => decide (s.size ≤ 100)
theorem strs_at (l : List ByteArray) (k : Nat) (h : k < l.length) : (strs l)[k]? = some (.string l[k]) := by simp [strs, List.getElem?_eq_getElem h]
theorem strs_ne {l : List ByteArray} {k : Nat} (h : k < l.length) (e : strs l = []) : False := by have := congrArg List.length e; rw [strs, List.length_map, List.length_nil] at this; omega
set_option maxHeartbeats 800000 in
theorem few_any (va : Value) (l : List ByteArray) (w : World) (h : Rd w va l.length (strs l)) (hl : l.length ≤ 9223372036854775807) (hs : ∀ s ∈ l, s.size ≤ 9223372036854775807) :
    Calls Tryd.prog 12 #[va] w fun e w' => e = .returned (.bool (fewB l)) ∧ w = w' := by
  obtain ⟨A, cap, rfl, hcap, hx⟩ := h.open_
  clear h
  by_cases h30 : 30 < l.length
  · have hf : fewB l = false := by simp [fewB]; omega
    rw [hf]
    go_enter Tryd.func12, Tryd.ntmps12
    go_wp2_with fail
    go_ret
    exact ⟨rfl, rfl⟩
  · have d1 : decide ((30 : Int) < (l.length : Int)) = false := by simp; omega
    have HF := hid (show fewB l = (decide (l.length ≤ 30) && l.all fun s => decide (s.size ≤ 100)) from rfl)
    go_enter Tryd.func12, Tryd.ntmps12
    go_wp2_with fail
    go_loop [3] (fun i => ∃ k : Nat, k ≤ l.length ∧ i = .int .i64 k ∧ Hid (∀ j (h : j < l.length), j < k → l[j].size ≤ 100)) (fun i => l.length - (intOf i).toNat)
    case atStart => exact ⟨0, Nat.zero_le _, rfl, hid (fun j h h0 => by omega)⟩
    case round =>
      obtain ⟨k, hk, rfl, HK⟩ := hrel
      by_cases hlt : k < l.length
      · rcases hx with hx | ⟨b, off, rfl, hc⟩
        · exact (strs_ne hlt hx).elim
        · have hcell := hc k _ (strs_at l k hlt)
          have hsz := hs l[k] (List.getElem_mem hlt)
          have HMem := hid (List.getElem_mem hlt)
          have HE := hid (fun h : l[k].size ≤ 100 => h)
          clear hc hs
          by_cases h100 : l[k].size ≤ 100
          · have HK' : Hid (∀ j (h : j < l.length), j < k + 1 → l[j].size ≤ 100) := hid (fun j h1 h2 => by
              by_cases hj : j < k
              · exact HK.out j h1 hj
              · obtain rfl : j = k := by omega
                exact h100)
            clear HK HE HMem
            generalize l[k] = r at *
            go_wp2_with fail
            go_round
            case rel => exact ⟨k + 1, by omega, by go_num, HK'⟩
            case measure => simp [intOf]; omega
          · have hf : fewB l = false := by
              rw [HF.out]; simp only [Bool.and_eq_false_iff]; right
              rw [List.all_eq_false]; exact ⟨l[k], HMem.out, by simpa using h100⟩
            have HF2 := hid hf
            clear hf HMem HE HK
            generalize l[k] = r at *
            go_wp2_with fail
            go_ret
            exact ⟨ret_bool HF2.out.symm, rfl⟩
      · obtain rfl : k = l.length := by omega
        have hf : fewB l = true := by
          rw [HF.out]; simp only [Bool.and_eq_true, decide_eq_true_eq]
          refine ⟨by omega, ?_⟩
          rw [List.all_eq_true]; intro x hx
          obtain ⟨j, hj, rfl⟩ := List.mem_iff_getElem.1 hx
          simpa using HK.out j hj hj
        have HF2 := hid hf
        clear hf HK hx
        go_wp2_with fail
        go_ret
        exact ⟨ret_bool HF2.out.symm, rfl⟩
set_option maxHeartbeats 400000 in
theorem refdigit_any (c : UInt8) (w : World) : Calls Tryd.prog 29 #[.int .u8 (c.toNat : Int)] w fun e w' => e = .returned (.bool (isD c)) ∧ w = w' := by
  have HD := hid (show isD c = (decide (48 ≤ c.toNat) && decide (c.toNat ≤ 57)) from rfl)
  by_cases h : 48 ≤ c.toNat
  · by_cases h2 : c.toNat ≤ 57
    · have hr : isD c = true := by rw [HD.out]; simp [h, h2]
      rw [hr]
      go_enter Tryd.func29, Tryd.ntmps29
      go_wp2
      go_ret
      exact ⟨ret_bool (by simp; omega), rfl⟩
    · have hr : isD c = false := by rw [HD.out]; simp [h, h2]
      rw [hr]
      go_enter Tryd.func29, Tryd.ntmps29
      go_wp2
      go_ret
      exact ⟨ret_bool (by simp; omega), rfl⟩
  · have hr : isD c = false := by rw [HD.out]; simp [h]
    rw [hr]
    go_enter Tryd.func29, Tryd.ntmps29
    go_wp2
    go_ret
    exact ⟨rfl, rfl⟩
theorem dval_pos' (L : List UInt8) (hne : L ≠ []) (h0 : L[0]? ≠ some 48) (hd : L.all isD = true) : 1 ≤ dval 0 L := by
  cases L with
  | nil => exact (hne rfl).elim
  | cons c r =>
    simp only [List.all_cons, Bool.and_eq_true] at hd
    exact dval_pos c r (fun e => h0 (by rw [e]; rfl)) hd.1
def argRes (l : List ByteArray) (nm : List UInt8) : Value :=
  if argBad nm = true then .tuple #[.string ⟨#[]⟩, .bool false, .int .i64 1]
  else if dval 0 nm ≤ l.length then .tuple #[.string (l.getD (dval 0 nm - 1) ⟨#[]⟩), .bool true, .int .i64 0]
  else .tuple #[.string ⟨#[]⟩, .bool false, .int .i64 0]
set_option maxHeartbeats 800000 in
theorem arg_range (A : Option Addr) (n cap : Nat) (s : ByteArray) (w : World) (hs : 0 < s.size) (hs9 : s.size ≤ 1000) (h0 : s[0] ≠ 48) (ht : Lib.trimS s.data.toList digs = []) (hv : Lib.atoiAll s.data.toList = .range) (tp : TypeId) (pv : Value) (hER : w.cell? ⟨1, 0, none⟩ = some (.iface tp pv)) :
    Calls Tryd.prog 13 #[.slice A n cap, .string s] w fun e w' => e = .returned (.tuple #[.string ⟨#[]⟩, .bool false, .int .i64 0]) ∧ Below w.heap.size w w' := by
  obtain ⟨hne, hne2⟩ := ne_facts s hs
  have hz : ((s[0].toNat : Int) == 48) = false := u8_no h0 rfl
  have HT := hid ht
  have HER := hid hER
  clear h0 ht hER
  go_enter Tryd.func13, Tryd.ntmps13
  go_wp2_with fail
  ((with_reducible refine (strim_any s _ (by omega)).mono ?_); rintro e w1 ⟨rfl, hb⟩)
  rw [HT.out]
  go_wp2_with fail
  ((with_reducible refine (Tryd.strconv_Atoi_range s (by omega) hv _ _ (bel_cell hb HER.out) (.inr ⟨_, _, rfl⟩)).mono ?_); rintro e w2 ⟨N, rfl, _, _, hb2⟩)
  have hB := hb.trans (hb2.mono hb.size)
  clear hv hb hb2
  generalize Lib.atoiSat s.data.toList = sat at *
  go_wp2_with fail
  go_ret3
  exact ⟨rfl, hB⟩
theorem arg_any (va : Value) (l : List ByteArray) (s : ByteArray) (w : World) (h : Rd w va l.length (strs l)) (hl : l.length ≤ 1000000) (hs9 : s.size ≤ 1000) (tp : TypeId) (pv : Value) (hER : w.cell? ⟨1, 0, none⟩ = some (.iface tp pv)) :
    Calls Tryd.prog 13 #[va, .string s] w fun e w' => e = .returned (argRes l s.data.toList) ∧ Below w.heap.size w w' := by
  have hsl : s.data.toList.length = s.size := by simp
  by_cases hs : s.size = 0
  · have hs0 : s = ⟨#[]⟩ := by apply ByteArray.ext; exact Array.eq_empty_of_size_eq_zero hs
    subst hs0
    exact (arg_nil va w).mono fun e w' ⟨he, hw⟩ => ⟨by rw [he]; rfl, by subst hw; exact Below.refl _ _⟩
  have hne : s.data.toList ≠ [] := fun e => by rw [e] at hsl; simp at hsl; omega
  have hfst : s.data.toList[0]? = some (s[0]'(by omega)) := ext_one s 0 (by omega)
  by_cases h0 : (s[0]'(by omega)) = 48
  · refine (arg_zero va s w (by omega) h0).mono fun e w' ⟨he, hw⟩ => ⟨?_, by subst hw; exact Below.refl _ _⟩
    rw [he, argRes, if_pos (by unfold argBad; rw [hfst, h0]; simp)]
  by_cases hd : s.data.toList.all isD = true
  · have ht := (trimS_nil s.data.toList).2 hd
    have hbad : argBad s.data.toList = false := by
      unfold argBad; rw [hfst, hd]; simp [h0]; simpa using hne
    have hpos : 1 ≤ dval 0 s.data.toList := by
      exact dval_pos' _ hne (by rw [hfst]; simpa using h0) hd
    rcases atoi_end _ hne hd with hv | ⟨hv, hge⟩
    · by_cases hle : dval 0 s.data.toList ≤ l.length
      · have hk : dval 0 s.data.toList - 1 < l.length := by omega
        refine (arg_in va l s w h hl (by omega) hs9 h0 ht (dval 0 s.data.toList - 1) hk (by rw [hv]; congr 1; omega)).mono fun e w' ⟨he, hb⟩ => ⟨?_, hb⟩
        rw [he, argRes, if_neg (by simp [hbad]), if_pos hle]
        simp [List.getD, List.getElem?_eq_getElem hk]
      · obtain ⟨A, cap, rfl, _, _⟩ := h.open_
        refine (arg_out A l.length cap s w (by omega) hs9 h0 ht _ hv (by omega)).mono fun e w' ⟨he, hb⟩ => ⟨?_, hb⟩
        rw [he, argRes, if_neg (by simp [hbad]), if_neg hle]
    · obtain ⟨A, cap, rfl, _, _⟩ := h.open_
      refine (arg_range A l.length cap s w (by omega) hs9 h0 ht hv tp pv hER).mono fun e w' ⟨he, hb⟩ => ⟨?_, hb⟩
      rw [he, argRes, if_neg (by simp [hbad]), if_neg (by omega)]
  · refine (arg_bad va s w (by omega) (by omega) h0 (fun e => hd ((trimS_nil _).1 e))).mono fun e w' ⟨he, hb⟩ => ⟨?_, hb⟩
    rw [he, argRes, if_pos (by unfold argBad; simp [hd])]
set_option maxRecDepth 100000 in
set_option maxHeartbeats 2000000 in
theorem refarg_any (va : Value) (l : List ByteArray) (s : ByteArray) (w : World) (h : Rd w va l.length (strs l)) (hl : l.length ≤ 1000000) (hs9 : s.size ≤ 1000) :
    Calls Tryd.prog 14 #[va, .string s] w fun e w' => e = .returned (argRes l s.data.toList) ∧ w = w' := by
  obtain ⟨A, cap, rfl, hcap, hx⟩ := h.open_
  clear h
  have HSL := hid (show s.data.toList.length = s.size by simp)
  go_enter Tryd.func14, Tryd.ntmps14
  go_wp2_with fail
  go_loop [7, 8] (fun vn vi => ∃ i n : Nat, i ≤ s.size ∧ vi = .int .i64 i ∧ vn = .int .i64 n ∧ Hid ((s.data.toList.take i).all isD = true) ∧ Hid (0 < i → s.data.toList[0]? ≠ some 48) ∧ Hid (n = rval l.length (s.data.toList.take i)) ∧ n ≤ 10 * l.length + 9) (fun _ vi => s.size - (intOf vi).toNat)
  case atStart => exact ⟨0, 0, by omega, rfl, rfl, hid rfl, hid (fun h => by omega), hid rfl, by omega⟩
  case round =>
    obtain ⟨i, n, hi, rfl, rfl, HD, HZ, HN, hn⟩ := hrel
    by_cases hlt : i < s.size
    · have hiL : i < s.data.toList.length := by rw [HSL.out]; exact hlt
      have HSI := hid (show s.data.toList[i] = s[i] by rw [Array.getElem_toList]; rfl)
      have H0 := hid (ext_one s 0 (by omega))
      have hi0 : (0 : Int) ≤ (i : Int) := Int.natCast_nonneg _
      have hi1 : (i : Int) < (s.size : Int) := by omega
      have HTk := hid (List.take_succ_eq_append_getElem hiL)
      by_cases hd : isD s[i] = true
      · have HDI := hid hd
        by_cases h48 : (s[0]'(by omega)) = 48
        · have hz : (((s[0]'(by omega)).toNat : Int) == 48) = true := by rw [h48]; rfl
          have hr : argRes l s.data.toList = .tuple #[.string ⟨#[]⟩, .bool false, .int .i64 1] := by
            rw [argRes, if_pos (by unfold argBad; rw [H0.out, h48]; simp)]
          have HR := hid hr
          clear hr h48 hd hx
          go_wp2_with fail
          ((with_reducible refine (refdigit_any s[i] _).mono ?_); rintro e w1 ⟨rfl, rfl⟩)
          rw [HDI.out]
          go_wp2_with fail
          go_ret3
          exact ⟨ret_val HR.out.symm, rfl⟩
        · have hz : (((s[0]'(by omega)).toNat : Int) == 48) = false := u8_no h48 rfl
          have HD' : Hid ((s.data.toList.take (i + 1)).all isD = true) := hid (by
            rw [HTk.out, List.all_append, HD.out, HSI.out]; simp [hd])
          have HZ' : Hid (0 < i + 1 → s.data.toList[0]? ≠ some 48) := hid (fun _ => by rw [H0.out]; simpa using h48)
          have hc : 48 ≤ s[i].toNat ∧ s[i].toNat ≤ 57 := by simpa [isD] using hd
          obtain ⟨hc1, hc2⟩ := hc
          have HN' := hid (rval_snoc l.length s.data.toList i hiL)
          have HRS : Hid (rst l.length n s[i] = if n ≤ l.length then 10 * n + (s[i].toNat - 48) else n) := hid rfl
          clear h48 hd hx
          by_cases hle : n ≤ l.length
          · have HNN : Hid (10 * n + (s[i].toNat - 48) = rval l.length (s.data.toList.take (i + 1))) := hid (by rw [HN'.out, ← HN.out, HSI.out, HRS.out, if_pos hle])
            have hw8 : IntKind.u8.wrap ((s[i].toNat : Int) - 48) = ((s[i].toNat - 48 : Nat) : Int) := by
              rw [show ((s[i].toNat : Int) - 48) = ((s[i].toNat - 48 : Nat) : Int) by omega]
              simp [IntKind.wrap, IntKind.signed, IntKind.bits]; omega
            go_wp2_with fail
            ((with_reducible refine (refdigit_any s[i] _).mono ?_); rintro e w1 ⟨rfl, rfl⟩)
            rw [HDI.out]
            go_wp2_with fail
            go_round
            case rel => exact ⟨i + 1, 10 * n + (s[i].toNat - 48), by omega, by go_num, by first | rfl | go_num, HD', HZ', HNN, by omega⟩
            case measure => simp [intOf]; omega
          · have hle' : decide (n ≤ l.length) = false := by simpa using hle
            have HNN : Hid (n = rval l.length (s.data.toList.take (i + 1))) := hid (by rw [HN'.out, ← HN.out, HSI.out, HRS.out, if_neg hle])
            go_wp2_with fail
            ((with_reducible refine (refdigit_any s[i] _).mono ?_); rintro e w1 ⟨rfl, rfl⟩)
            rw [HDI.out]
            go_wp2_with fail
            go_round
            case rel => exact ⟨i + 1, n, by omega, by go_num, rfl, HD', HZ', HNN, hn⟩
            case measure => simp [intOf]; omega
      · have hd' : isD s[i] = false := by simpa using hd
        have HDI := hid hd'
        have hr : argRes l s.data.toList = .tuple #[.string ⟨#[]⟩, .bool false, .int .i64 1] := by
          rw [argRes, if_pos]
          unfold argBad
          have : s.data.toList.all isD = false := by
            rw [List.all_eq_false]; exact ⟨s.data.toList[i], List.getElem_mem hiL, by rw [HSI.out]; simpa using hd'⟩
          simp [this]
        have HR := hid hr
        clear hr hd hd' hx
        go_wp2_with fail
        ((with_reducible refine (refdigit_any s[i] _).mono ?_); rintro e w1 ⟨rfl, rfl⟩)
        rw [HDI.out]
        go_wp2_with fail
        go_ret3
        exact ⟨ret_val HR.out.symm, rfl⟩
    · obtain rfl : i = s.size := by omega
      have htk : s.data.toList.take s.size = s.data.toList := List.take_of_length_le (by rw [HSL.out]; exact Nat.le_refl _)
      have hD := HD.out
      have hN := HN.out
      rw [htk] at hD hN
      have hrd := (rval_dval l.length s.data.toList s.size (by rw [HSL.out]; exact Nat.le_refl _)).1
      rw [htk, ← hN] at hrd
      by_cases h0 : s.size = 0
      · have hs0 : s = ⟨#[]⟩ := by apply ByteArray.ext; exact Array.eq_empty_of_size_eq_zero h0
        subst hs0
        clear hx HD HN hD hN hrd htk HSL HZ
        go_wp2_with fail
        go_ret3
        exact ⟨rfl, rfl⟩
      · obtain ⟨hne, hne2⟩ := ne_facts s (by omega)
        have hz := HZ.out (by omega)
        have hnl : s.data.toList ≠ [] := fun e => by have := HSL.out; rw [e] at this; simp at this; omega
        have hbad : argBad s.data.toList = false := by
          unfold argBad; rw [hD]; cases hl2 : s.data.toList with
          | nil => exact (hnl hl2).elim
          | cons c r => rw [hl2] at hz; simpa using hz
        have hpos := dval_pos' _ hnl hz hD
        by_cases hle : n ≤ l.length
        · have hnv : n = dval 0 s.data.toList := by rcases hrd with h | h <;> omega
          obtain ⟨k, rfl⟩ : ∃ k, n = k + 1 := ⟨n - 1, by omega⟩
          have hk : k < l.length := by omega
          have hr : argRes l s.data.toList = .tuple #[.string l[k], .bool true, .int .i64 0] := by
            rw [argRes, if_neg (by simp [hbad]), ← hnv, if_pos hle]
            simp [List.getD, List.getElem?_eq_getElem hk]
          rcases hx with hx | ⟨b, off, rfl, hc⟩
          · exact (strs_ne hk hx).elim
          · have hcell := hc k _ (strs_at l k hk)
            have HR := hid hr
            have hi0 : (0 : Int) ≤ (k : Int) := Int.natCast_nonneg _
            have hi1 : (k : Int) < (l.length : Int) := by omega
            clear hr hnv hpos hbad hz hnl hrd hD hN htk hc HD HN HZ
            generalize l[k] = r at *
            go_wp2_with fail
            go_ret3
            exact ⟨ret_val HR.out.symm, rfl⟩
        · have hgt : ¬ dval 0 s.data.toList ≤ l.length := by rcases hrd with h | h <;> omega
          have hr : argRes l s.data.toList = .tuple #[.string ⟨#[]⟩, .bool false, .int .i64 0] := by
            rw [argRes, if_neg (by simp [hbad]), if_neg hgt]
          have HR := hid hr
          have hle' : decide (l.length < n) = true := by simp; omega
          clear hr hgt hpos hbad hz hnl hrd hD hN htk HD HN HZ hx
          go_wp2_with fail
          go_ret3
          exact ⟨ret_val HR.out.symm, rfl⟩
end Go.Proofs.YthnmdhcgnimdfaaDoor
