/- The walk of whelkref03.Number. -/
import Derived.Test.YtadmmmehphhecaaGreatDoorG
import Derived.Test.YtadmmmehphhecaaGreatDoorEe
set_option linter.unusedVariables false
set_option linter.unusedSimpArgs false
namespace Go.Proofs.YtadmmmehphhecaaGreatDoor
open Go.RowKit
def strN : Value → Nat
  | .string b => b.size
  | _ => 0
def cutR (l : List UInt8) : List UInt8 := (l.reverse.dropWhile blkB).reverse
theorem emp_ne {u : ByteArray} (h : 0 < u.size) : u.toList.isEmpty = false := by
  rw [← decide_eq_emptyBytes]; simp; intro e; rw [e] at h; simp at h
theorem cons_ext (u : ByteArray) (h : 0 < u.size) : u.data.toList = u[0] :: (u.extract 1 u.size).data.toList := by
  have hsl : u.data.toList.length = u.size := by simp
  have h1 : (u.extract 1 u.size).data.toList = u.data.toList.drop 1 := by
    rw [ext_list, List.take_of_length_le]; rw [List.length_drop]; omega
  rw [h1]; exact drop_one u 0 h
theorem snoc_ext (u : ByteArray) (h : 0 < u.size) : u.data.toList = (u.extract 0 (u.size - 1)).data.toList ++ [u[u.size - 1]] := by
  have hsl : u.data.toList.length = u.size := by simp
  rw [ext_list, List.drop_zero]
  have h2 : u[u.size - 1] = u.data.toList[u.size - 1] := by rw [Array.getElem_toList]; rfl
  have h3 := List.drop_eq_getElem_cons (l := u.data.toList) (i := u.size - 1) (by omega)
  have h4 : List.drop u.size u.data.toList = [] := List.drop_of_length_le (by omega)
  rw [show u.size - 1 + 1 = u.size by omega, h4] at h3
  rw [h2, Nat.sub_zero, ← h3]
  exact (List.take_append_drop _ _).symm
theorem cutR_snoc (l : List UInt8) (c : UInt8) (h : blkB c = true) : cutR (l ++ [c]) = cutR l := by
  unfold cutR; rw [List.reverse_append]; simp [List.dropWhile_cons, h]
theorem cutR_stop (l : List UInt8) (c : UInt8) (h : blkB c = false) : cutR (l ++ [c]) = l ++ [c] := by
  unfold cutR; rw [List.reverse_append]; simp [List.dropWhile_cons, h]
theorem numF_nodig (c : UInt8) (r : List UInt8) (h : digB c = false) : numF (c :: r) = none := by
  have h48 : ¬ c.toNat = 48 := by intro e; simp [digB, e] at h
  have hk : kindF (c :: r) = 0 := by
    match r with
    | [] => exact if_neg h48
    | [x] => exact if_neg h48
    | x :: y :: z => exact if_neg h48
  have hd : digsF (c :: r) = [] := by unfold digsF; rw [hk]; show List.takeWhile digB (c :: r) = []; rw [List.takeWhile_cons, h]; rfl
  unfold numF; rw [if_pos hd]
theorem rnum_at (s : ByteArray) (ji : Int) (j : Nat) (hji : ji = (j : Int)) (w : World) (hs : s.size ≤ 100000) (hj : j < s.size) (hd : digB s[j] = true) : Calls Tryz.prog 27 #[.string s, .int .i64 ji] w (RNumPost (s.data.toList.drop j) j w) := by
  subst hji; exact rnumber_any s j w hs hj hd
set_option maxRecDepth 100000 in
set_option maxHeartbeats 4000000 in
theorem rNumber_any (s : ByteArray) (w : World) (hs : s.size ≤ 100) : Calls Tryz.prog 8 #[.string s] w fun e w' => e = .returned (numV (numberF (cutR (s.data.toList.dropWhile blkB)))) ∧ w = w' := by
  obtain ⟨L, hL⟩ : ∃ L, L = s.data.toList.dropWhile blkB := ⟨_, rfl⟩
  rw [← hL]
  have HLL := hid hL
  clear hL
  go_enter Tryz.func8, Tryz.ntmps8
  go_wp2_with fail
  go_loop [0] (fun v0 => ∃ u : ByteArray, v0 = .string u ∧ L = u.data.toList.dropWhile blkB ∧ u.size ≤ 100) (fun v0 => strN v0)
  case atStart => exact ⟨s, rfl, HLL.out, hs⟩
  case round =>
    obtain ⟨u, rfl, hu, hus⟩ := hrel
    have HU := hid hu
    clear hu
    by_cases h0 : 0 < u.size
    · have hemp := emp_ne h0
      have HC := hid (cons_ext u h0)
      cases hb : blkB u[0]
      · go_wp2_with fail
        ((with_reducible refine (rBlank_any u[0] _).mono ?_); rintro e w1 ⟨rfl, rfl⟩)
        rw [hb]
        go_wp2_with fail
        have HLU := hid (show L = u.data.toList by have := HU.out; rw [HC.out, List.dropWhile_cons, hb] at this; rw [HC.out]; simpa using this)
        go_loop [0] (fun v0 => ∃ v : ByteArray, v0 = .string v ∧ cutR L = cutR v.data.toList ∧ v.size ≤ 100) (fun v0 => strN v0)
        case atStart => exact ⟨u, rfl, by rw [HLU.out], hus⟩
        case round =>
          obtain ⟨v, rfl, hv, hvs⟩ := hrel
          have HV := hid hv
          clear hv hemp
          by_cases hv0 : 0 < v.size
          · have hempv := emp_ne hv0
            have HS := hid (snoc_ext v hv0)
            have hw1 : IntKind.i64.wrap ((v.size : Int) - 1) = ((v.size - 1 : Nat) : Int) := by rw [IntWalk.i64_in _ (by omega)]; omega
            have hw2 : (v.size : Int) - 1 = ((v.size - 1 : Nat) : Int) := by omega
            have hlt : v.size - 1 < v.size := by omega
            cases hl : blkB v[v.size - 1]
            · have HF := hid (show cutR L = v.data.toList by rw [HV.out, HS.out, cutR_stop _ _ hl])
              go_wp2_with fail
              ((with_reducible refine (rBlank_any v[v.size - 1] _).mono ?_); rintro e w1 ⟨rfl, rfl⟩)
              rw [hl]
              -- arms
              have h0c := drop_one v 0 hv0
              rw [List.drop_zero] at h0c
              have H0C := hid h0c
              clear h0c
              by_cases h1 : v[0].toNat = 45
              · have hne : ((v[0].toNat : Int) == 45) = true := by simp; omega
                have HN := hid (show numberF v.data.toList = signF true (v.data.toList.drop 1) by rw [H0C.out]; exact if_pos h1)
                by_cases hsz : v.size = 1
                · have hszI : ((1 : Int) == (v.size : Int)) = true := by simp; omega
                  have HZ := hid (show signF true (v.data.toList.drop 1) = (0, 23) by rw [List.drop_of_length_le (by have : v.data.toList.length = v.size := (by simp); omega)]; exact signF_none rfl)
                  go_wp2_with fail
                  go_ret2
                  exact ⟨ret_val (by rw [HF.out, HN.out, HZ.out]; rfl), rfl⟩
                have hszI : ((1 : Int) == (v.size : Int)) = false := by simp; omega
                have hjs : 1 < v.size := by omega
                have hvl : v.data.toList.length = v.size := by simp
                have HVL := hid hvl
                have hql : (v.data.toList.drop 1).length = v.size - 1 := by rw [List.length_drop, hvl]
                have HQL := hid hql
                clear hvl hql
                cases hd : digB v[1]
                · have HZ := hid (show signF true (v.data.toList.drop 1) = (0, 23) by rw [drop_one v 1 hjs]; exact signF_none (numF_nodig _ _ hd))
                  go_wp2_with fail
                  ((with_reducible refine (rDigit_any v[1] _).mono ?_); rintro e w1 ⟨rfl, rfl⟩)
                  rw [hd]
                  go_wp2_with fail
                  go_ret2
                  exact ⟨ret_val (by rw [HF.out, HN.out, HZ.out]; rfl), rfl⟩
                · go_wp2_with fail
                  ((with_reducible refine (rDigit_any v[1] _).mono ?_); rintro e w1 ⟨rfl, rfl⟩)
                  rw [hd]
                  go_wp2_with fail
                  ((with_reducible refine (rnum_at v (1 : Int) 1 rfl _ (by omega) hjs hd).mono ?_); rintro e w1 ⟨rfl, hpost⟩)
                  obtain ⟨E, hE⟩ : ∃ E, E = endF (v.data.toList.drop 1) := ⟨_, rfl⟩
                  rw [← hE] at hpost
                  have HE := hid hE
                  have hE5 : 1 + E ≤ v.size := by have := endF_le (v.data.toList.drop 1); have := HQL.out; omega
                  clear hE
                  rcases hpost with ⟨n, hn, hn6, rfl⟩ | ⟨hn, x, hx, rfl⟩
                  · have HNN := hid hn
                    clear hn
                    by_cases hc : 1 + E = v.size
                    · have hcI : ((1 + E : Nat) : Int) = (v.size : Int) := by omega
                      rw [hcI]
                      have HC := hid hc
                      clear hc hcI
                      by_cases hm : n ≤ 9223372036854775808
                      · have HS1 := hid (signF_ok (less := true) HNN.out (by rw [← HE.out, HQL.out]; have := HC.out; omega) (by simpa using hm))
                        have hmI : ¬ (9223372036854775808 : Int) < (n : Int) := by omega
                        have hw : IntKind.i64.wrap (IntKind.u64.wrap (0 - (n : Int))) = -(n : Int) := by simp [IntKind.wrap, IntKind.signed, IntKind.bits]; omega
                        have hmE : ((n : Int) == 9223372036854775808) = decide (n = 9223372036854775808) := by rw [Bool.eq_iff_iff]; simp; omega
                        by_cases hm2 : n = 9223372036854775808
                        · subst hm2
                          clear hw hmI hmE
                          have hww : wrap64 (IntKind.u64.wrap (-9223372036854775808)) = -9223372036854775808 := by first | decide | decide +kernel | rfl
                          go_wp2_with fail
                          refine bodyPost_ret (v := .tuple #[.int .i64 (-9223372036854775808), .int .i64 0]) (by simp [results, Tryz.results8, go_sem, hww]) rfl ?_
                          exact ⟨ret_val (by rw [HF.out, HN.out, HS1.out]; rfl), rfl⟩
                        have hmE2 : ¬ (n : Int) = 9223372036854775808 := by omega
                        have hw' : IntKind.i64.wrap (IntKind.u64.wrap (-(n : Int))) = -(n : Int) := by simp [IntKind.wrap, IntKind.signed, IntKind.bits]; omega
                        go_wp2_with fail
                        all_goals (go_ret2; exact ⟨ret_val (by rw [HF.out, HN.out, HS1.out]; rfl), rfl⟩)
                      · have HS1 := hid (signF_no (less := true) HNN.out (fun h => hm (by simpa using h.2)))
                        have hmI : (9223372036854775808 : Int) < (n : Int) := by omega
                        go_wp2_with fail
                        all_goals (go_ret2; exact ⟨ret_val (by rw [HF.out, HN.out, HS1.out]; rfl), rfl⟩)
                    · have hcI : ((1 + E : Nat) : Int) < (v.size : Int) := by omega
                      have HS1 := hid (signF_no (less := true) HNN.out (fun h => hc (by rw [HE.out, h.1, HQL.out]; omega)))
                      go_wp2_with fail
                      all_goals (go_ret2; exact ⟨ret_val (by rw [HF.out, HN.out, HS1.out]; rfl), rfl⟩)
                  · have HS1 := hid (signF_none (less := true) hn)
                    clear hn
                    go_wp2_with fail
                    all_goals (go_ret2; exact ⟨ret_val (by rw [HF.out, HN.out, HS1.out]; rfl), rfl⟩)
              · have hne : ((v[0].toNat : Int) == 45) = false := by simp; omega
                by_cases h2 : v[0].toNat = 43
                · have hnp : ((v[0].toNat : Int) == 43) = true := by simp; omega
                  have HN := hid (show numberF v.data.toList = signF false (v.data.toList.drop 1) by rw [H0C.out]; exact (if_neg h1).trans (if_pos h2))
                  by_cases hsz : v.size = 1
                  · have hszI : ((1 : Int) == (v.size : Int)) = true := by simp; omega
                    have HZ := hid (show signF false (v.data.toList.drop 1) = (0, 23) by rw [List.drop_of_length_le (by have : v.data.toList.length = v.size := (by simp); omega)]; exact signF_none rfl)
                    go_wp2_with fail
                    go_ret2
                    exact ⟨ret_val (by rw [HF.out, HN.out, HZ.out]; rfl), rfl⟩
                  have hszI : ((1 : Int) == (v.size : Int)) = false := by simp; omega
                  have hjs : 1 < v.size := by omega
                  have hvl : v.data.toList.length = v.size := by simp
                  have HVL := hid hvl
                  have hql : (v.data.toList.drop 1).length = v.size - 1 := by rw [List.length_drop, hvl]
                  have HQL := hid hql
                  clear hvl hql
                  cases hd : digB v[1]
                  · have HZ := hid (show signF false (v.data.toList.drop 1) = (0, 23) by rw [drop_one v 1 hjs]; exact signF_none (numF_nodig _ _ hd))
                    go_wp2_with fail
                    ((with_reducible refine (rDigit_any v[1] _).mono ?_); rintro e w1 ⟨rfl, rfl⟩)
                    rw [hd]
                    go_wp2_with fail
                    go_ret2
                    exact ⟨ret_val (by rw [HF.out, HN.out, HZ.out]; rfl), rfl⟩
                  · go_wp2_with fail
                    ((with_reducible refine (rDigit_any v[1] _).mono ?_); rintro e w1 ⟨rfl, rfl⟩)
                    rw [hd]
                    go_wp2_with fail
                    ((with_reducible refine (rnum_at v (1 : Int) 1 rfl _ (by omega) hjs hd).mono ?_); rintro e w1 ⟨rfl, hpost⟩)
                    obtain ⟨E, hE⟩ : ∃ E, E = endF (v.data.toList.drop 1) := ⟨_, rfl⟩
                    rw [← hE] at hpost
                    have HE := hid hE
                    have hE5 : 1 + E ≤ v.size := by have := endF_le (v.data.toList.drop 1); have := HQL.out; omega
                    clear hE
                    rcases hpost with ⟨n, hn, hn6, rfl⟩ | ⟨hn, x, hx, rfl⟩
                    · have HNN := hid hn
                      clear hn
                      by_cases hc : 1 + E = v.size
                      · have hcI : ((1 + E : Nat) : Int) = (v.size : Int) := by omega
                        rw [hcI]
                        have HC := hid hc
                        clear hc hcI
                        by_cases hm : n ≤ 9223372036854775807
                        · have HS1 := hid (signF_ok (less := false) HNN.out (by rw [← HE.out, HQL.out]; have := HC.out; omega) (by simpa using hm))
                          have hmI : ¬ (9223372036854775808 : Int) < (n : Int) := by omega
                          have hmE : ((n : Int) == 9223372036854775808) = false := by simp; omega
                          have hw : IntKind.i64.wrap (n : Int) = (n : Int) := IntWalk.i64_in _ (by omega)
                          go_wp2_with fail
                          all_goals (go_ret2; exact ⟨ret_val (by rw [HF.out, HN.out, HS1.out]; rfl), rfl⟩)
                        · have HS1 := hid (signF_no (less := false) HNN.out (fun h => hm (by simpa using h.2)))
                          by_cases hm2 : n = 9223372036854775808
                          · subst hm2
                            go_wp2_with fail
                            all_goals (go_ret2; exact ⟨ret_val (by rw [HF.out, HN.out, HS1.out]; rfl), rfl⟩)
                          · have hmI : (9223372036854775808 : Int) < (n : Int) := by omega
                            go_wp2_with fail
                            all_goals (go_ret2; exact ⟨ret_val (by rw [HF.out, HN.out, HS1.out]; rfl), rfl⟩)
                      · have hcI : ((1 + E : Nat) : Int) < (v.size : Int) := by omega
                        have HS1 := hid (signF_no (less := false) HNN.out (fun h => hc (by rw [HE.out, h.1, HQL.out]; omega)))
                        go_wp2_with fail
                        all_goals (go_ret2; exact ⟨ret_val (by rw [HF.out, HN.out, HS1.out]; rfl), rfl⟩)
                    · have HS1 := hid (signF_none (less := false) hn)
                      clear hn
                      go_wp2_with fail
                      all_goals (go_ret2; exact ⟨ret_val (by rw [HF.out, HN.out, HS1.out]; rfl), rfl⟩)
                · have hnp : ((v[0].toNat : Int) == 43) = false := by simp; omega
                  have HN := hid (show numberF v.data.toList = signF false (v.data.toList.drop 0) by rw [List.drop_zero, H0C.out]; exact (if_neg h1).trans (if_neg h2))
                  have hszI : ((0 : Int) == (v.size : Int)) = false := by simp; omega
                  have hjs : 0 < v.size := hv0
                  have hvl : v.data.toList.length = v.size := by simp
                  have HVL := hid hvl
                  have hql : (v.data.toList.drop 0).length = v.size - 0 := by rw [List.length_drop, hvl]
                  have HQL := hid hql
                  clear hvl hql
                  cases hd : digB v[0]
                  · have HZ := hid (show signF false (v.data.toList.drop 0) = (0, 23) by rw [drop_one v 0 hjs]; exact signF_none (numF_nodig _ _ hd))
                    go_wp2_with fail
                    ((with_reducible refine (rDigit_any v[0] _).mono ?_); rintro e w1 ⟨rfl, rfl⟩)
                    rw [hd]
                    go_wp2_with fail
                    go_ret2
                    exact ⟨ret_val (by rw [HF.out, HN.out, HZ.out]; rfl), rfl⟩
                  · go_wp2_with fail
                    ((with_reducible refine (rDigit_any v[0] _).mono ?_); rintro e w1 ⟨rfl, rfl⟩)
                    rw [hd]
                    go_wp2_with fail
                    ((with_reducible refine (rnum_at v (0 : Int) 0 rfl _ (by omega) hjs hd).mono ?_); rintro e w1 ⟨rfl, hpost⟩)
                    obtain ⟨E, hE⟩ : ∃ E, E = endF (v.data.toList.drop 0) := ⟨_, rfl⟩
                    rw [← hE] at hpost
                    have HE := hid hE
                    have hE5 : 0 + E ≤ v.size := by have := endF_le (v.data.toList.drop 0); have := HQL.out; omega
                    clear hE
                    rcases hpost with ⟨n, hn, hn6, rfl⟩ | ⟨hn, x, hx, rfl⟩
                    · have HNN := hid hn
                      clear hn
                      by_cases hc : 0 + E = v.size
                      · have hcI : ((0 + E : Nat) : Int) = (v.size : Int) := by omega
                        rw [hcI]
                        have HC := hid hc
                        clear hc hcI
                        by_cases hm : n ≤ 9223372036854775807
                        · have HS1 := hid (signF_ok (less := false) HNN.out (by rw [← HE.out, HQL.out]; have := HC.out; omega) (by simpa using hm))
                          have hmI : ¬ (9223372036854775808 : Int) < (n : Int) := by omega
                          have hmE : ((n : Int) == 9223372036854775808) = false := by simp; omega
                          have hw : IntKind.i64.wrap (n : Int) = (n : Int) := IntWalk.i64_in _ (by omega)
                          go_wp2_with fail
                          all_goals (go_ret2; exact ⟨ret_val (by rw [HF.out, HN.out, HS1.out]; rfl), rfl⟩)
                        · have HS1 := hid (signF_no (less := false) HNN.out (fun h => hm (by simpa using h.2)))
                          by_cases hm2 : n = 9223372036854775808
                          · subst hm2
                            go_wp2_with fail
                            all_goals (go_ret2; exact ⟨ret_val (by rw [HF.out, HN.out, HS1.out]; rfl), rfl⟩)
                          · have hmI : (9223372036854775808 : Int) < (n : Int) := by omega
                            go_wp2_with fail
                            all_goals (go_ret2; exact ⟨ret_val (by rw [HF.out, HN.out, HS1.out]; rfl), rfl⟩)
                      · have hcI : ((0 + E : Nat) : Int) < (v.size : Int) := by omega
                        have HS1 := hid (signF_no (less := false) HNN.out (fun h => hc (by rw [HE.out, h.1, HQL.out]; omega)))
                        go_wp2_with fail
                        all_goals (go_ret2; exact ⟨ret_val (by rw [HF.out, HN.out, HS1.out]; rfl), rfl⟩)
                    · have HS1 := hid (signF_none (less := false) hn)
                      clear hn
                      go_wp2_with fail
                      all_goals (go_ret2; exact ⟨ret_val (by rw [HF.out, HN.out, HS1.out]; rfl), rfl⟩)
              -- end of arms
            · go_wp2_with fail
              ((with_reducible refine (rBlank_any v[v.size - 1] _).mono ?_); rintro e w1 ⟨rfl, rfl⟩)
              rw [hl]
              go_wp2_with fail
              go_round
              case rel => exact ⟨_, rfl, by rw [HV.out, HS.out, cutR_snoc _ _ hl], by simp; omega⟩
              case measure => simp [strN]; omega
          · have hve : v = ByteArray.empty := ByteArray.ext (Array.eq_empty_of_size_eq_zero (show v.data.size = 0 by have : v.data.size = v.size := rfl; omega))
            have hempv : v.toList.isEmpty = true := by rw [← decide_eq_emptyBytes]; simpa using hve
            have HF := hid (show numberF (cutR L) = (0, 0) by rw [HV.out, hve]; rfl)
            clear hve
            go_wp2_with fail
            go_ret2
            exact ⟨ret_val (by rw [HF.out]; rfl), rfl⟩
      · go_wp2_with fail
        ((with_reducible refine (rBlank_any u[0] _).mono ?_); rintro e w1 ⟨rfl, rfl⟩)
        rw [hb]
        go_wp2_with fail
        go_round
        case rel =>
          refine ⟨_, rfl, ?_, by simp; omega⟩
          have := HU.out; rw [HC.out, List.dropWhile_cons, hb] at this; simpa using this
        case measure => simp [strN]; omega
    · have hue : u = ByteArray.empty := ByteArray.ext (Array.eq_empty_of_size_eq_zero (show u.data.size = 0 by have : u.data.size = u.size := rfl; omega))
      have hemp : u.toList.isEmpty = true := by rw [← decide_eq_emptyBytes]; simpa using hue
      have HF := hid (show numberF (cutR L) = (0, 0) by rw [HU.out, hue]; rfl)
      have HUE := hid hue
      clear hue
      go_wp2_with fail
      go_loop [0] (fun v0 => v0 = .string u) (fun v0 => strN v0)
      case atStart => exact rfl
      case round =>
        subst hrel
        go_wp2_with fail
        go_ret2
        exact ⟨ret_val (by rw [HF.out]; rfl), rfl⟩
end Go.Proofs.YtadmmmehphhecaaGreatDoor
