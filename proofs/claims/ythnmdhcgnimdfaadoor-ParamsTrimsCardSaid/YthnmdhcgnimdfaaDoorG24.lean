/- The walks of whelkref02.Match without paths and whelkref15.Trim: values of any length, patterns of up to ten thousand bytes. -/
import Derived.Test.YthnmdhcgnimdfaaDoorG23
set_option linter.unusedVariables false
set_option linter.unusedSimpArgs false
namespace Go.Proofs.YthnmdhcgnimdfaaDoor
open Go.RowKit
attribute [local go_sem ↓] Go.wp_at_zero Go.wp_at_succ
set_option maxRecDepth 100000 in
set_option maxHeartbeats 800000 in
theorem refmatch_any (v : Value) (p : List It) (s : ByteArray) (w : World) (h : RdI w v p) (hp : p.length ≤ 100000) (hs : s.size ≤ 100000) (hr : ∀ x ∈ p, x.rs.length ≤ 1000000) :
    Calls Tryd.prog 26 #[v, .string s] w fun e w' => e = .returned (.bool (M p s.data.toList)) ∧ Below w.heap.size w w' := by
  have HR := hid h
  have HRR := hid hr
  have HM : Hid (tabF p s.data.toList p.length s.size = M p s.data.toList) := hid (by
    unfold tabF; rw [List.take_length, List.take_of_length_le (by simp)])
  clear h hr
  go_enter Tryd.func26, Tryd.ntmps26
  go_wp2_with fail
  ((with_reducible refine (refends_any _ p s _ HR.out hp hs HRR.out).mono ?_); rintro e w1 ⟨g, c, rfl, how, hb⟩)
  have hc := own_bit how s.size (Nat.le_refl _)
  rw [HM.out] at hc
  clear how
  obtain ⟨m, hm⟩ : ∃ m, m = M p s.data.toList := ⟨_, rfl⟩
  rw [← hm] at hc
  have HMM := hid hm
  clear hm HM
  go_wp2_with fail
  go_ret
  exact ⟨ret_bool HMM.out, hb⟩
theorem best_keep (f : Nat → Bool) (m : Nat) (h : ¬ best f false m < 0) : best f false (m + 1) = best f false m := by rw [best, if_neg (by simp; intro _; omega)]
set_option maxRecDepth 100000 in
set_option maxHeartbeats 3000000 in
theorem reftrim_head (op : Int) (s : ByteArray) (v : Value) (t : List Ch) (w : World) (h : Rd w v t.length (chs t)) (ht : t.length ≤ 10000) (hs : s.size ≤ 4096) (hop : op = 6 ∨ op = 7) :
    Calls Tryd.prog 9 #[.int .i64 op, .string s, v] w fun e w' => e = .returned (.tuple #[.string ⟨(trimL op s.data.toList t).toArray⟩, .int .i64 0]) ∧ Below w.heap.size w w' := by
  obtain ⟨A, cap, rfl, _, _⟩ := h.open_
  have HR := hid h
  clear h
  have hsl : s.data.toList.length = s.size := by simp
  obtain ⟨lg, hlg⟩ : ∃ lg : Bool, lg = (op == 7) := ⟨_, rfl⟩
  have HT : Hid (trimL op s.data.toList t = s.data.toList.drop (best (hd (compile t) s.data.toList) lg (s.size + 1)).toNat) := hid (by rw [trimL, if_pos (by omega), hsl, hlg])
  have HFW := hid (compile_few t)
  clear hsl
  rcases hop with rfl | rfl
  all_goals
    go_enter Tryd.func9, Tryd.ntmps9
    go_wp2_with fail
    ((with_reducible refine (refcompile_any _ t _ HR.out ht).mono ?_); rintro e w1 ⟨vp, rfl, hrp, hcl, hb1⟩)
    have HRP := hid hrp
    generalize compile t = p at *
    clear hrp
    obtain ⟨f, hf⟩ : ∃ f, f = hd p s.data.toList := ⟨_, rfl⟩
    rw [← hf] at HT
    have HF := hid hf
    clear hf
    obtain ⟨pa, pc, hpv⟩ : ∃ a c, vp = .slice a p.length c := by obtain ⟨ps, e1, ⟨a, c, e2, _⟩, _⟩ := HRP.out; exact ⟨a, c, by rw [e2, ← e1, List.length_map]⟩
    subst hpv
    have HLG := hid hlg
    clear hlg
    go_wp2_with fail
    go_loopw [9, 10] (fun va vn wr => ∃ (n : Nat) (at_ : Int), n ≤ s.size + 1 ∧ vn = .int .i64 n ∧ va = .int .i64 at_ ∧ Hid (at_ = best f lg n) ∧ Below w.heap.size w wr ∧ Below w1.heap.size w1 wr) (fun _ vn _ => s.size + 1 - (intOf vn).toNat)
    case atStart => exact ⟨0, -1, by omega, rfl, rfl, hid rfl, hb1, Below.refl _ _⟩
    case round =>
      clear hb1
      obtain ⟨n, at_, hn, rfl, rfl, HA, hb, hbb⟩ := hrel
      have hbd := best_bd f lg n
      rw [← HA.out] at hbd
      obtain ⟨hb1, hb2⟩ := hbd
      by_cases hlt : n ≤ s.size
      · have HM := hid (ext_take s n)
        have hes : (s.extract 0 n).size ≤ 100000 := by
          have := congrArg List.length (ext_take s n); simp at this; simp; omega
        cases hfn : f n
        · have HN : Hid (at_ = best f lg (n + 1)) := hid (by rw [best_no _ _ _ hfn]; exact HA.out)
          have HFF : Hid (M p (s.extract 0 n).data.toList = false) := hid (by rw [HM.out, ← hfn, HF.out]; rfl)
          clear hfn
          go_wp2_with fail
          ((with_reducible refine (refmatch_any _ p _ _ (HRP.out.below hbb) (by omega) hes (fun x hx => by have := HFW.out x hx; omega)).mono ?_); rintro e w2 ⟨rfl, hb3⟩)
          rw [HFF.out]
          have hbF := hb.trans (hb3.mono hb.size)
          have hbG := hbb.trans (hb3.mono hbb.size)
          clear hb3
          go_wp2_with fail
          go_roundw
          case rel => exact ⟨n + 1, at_, by omega, by go_num, rfl, HN, hbF, hbG⟩
          case measure => simp [intOf]; omega
        · have HFF : Hid (M p (s.extract 0 n).data.toList = true) := hid (by rw [HM.out, ← hfn, HF.out]; rfl)
          by_cases hgo : lg = true ∨ at_ < 0
          · have HN : Hid ((n : Int) = best f lg (n + 1)) := hid (by rw [best_yes _ _ _ hfn (by rw [← HA.out]; exact hgo)])
            have hgo2 : at_ < 0 ∨ ¬ at_ < 0 := by omega
            have HGO := hid hgo
            clear hfn hgo
            rcases hgo2 with hneg | hneg
            all_goals
              go_wp2_with fail
              ((with_reducible refine (refmatch_any _ p _ _ (HRP.out.below hbb) (by omega) hes (fun x hx => by have := HFW.out x hx; omega)).mono ?_); rintro e w2 ⟨rfl, hb3⟩)
              rw [HFF.out]
              have hbF := hb.trans (hb3.mono hb.size)
              have hbG := hbb.trans (hb3.mono hbb.size)
              clear hb3
              first
                | (exfalso; have h1 := HGO.out; rw [HLG.out] at h1; rcases h1 with h1 | h1; (exact absurd h1 (by decide)); omega)
                | (go_wp2_with fail
                   go_roundw
                   case rel => exact ⟨n + 1, n, by omega, by go_num, rfl, HN, hbF, hbG⟩
                   case measure => simp [intOf]; omega)
          · obtain rfl : lg = false := by cases lg; rfl; exact (hgo (.inl rfl)).elim
            have hneg : ¬ at_ < 0 := fun h => hgo (.inr h)
            have HN : Hid (at_ = best f false (n + 1)) := hid (by rw [best_keep f n (by rw [← HA.out]; exact hneg)]; exact HA.out)
            clear hfn hgo
            first
              | (exact absurd HLG.out (by decide))
              | (go_wp2_with fail
                 ((with_reducible refine (refmatch_any _ p _ _ (HRP.out.below hbb) (by omega) hes (fun x hx => by have := HFW.out x hx; omega)).mono ?_); rintro e w2 ⟨rfl, hb3⟩)
                 rw [HFF.out]
                 have hbF := hb.trans (hb3.mono hb.size)
                 have hbG := hbb.trans (hb3.mono hbb.size)
                 clear hb3
                 go_wp2_with fail
                 go_roundw
                 case rel => exact ⟨n + 1, at_, by omega, by go_num, rfl, HN, hbF, hbG⟩
                 case measure => simp [intOf]; omega)
      · obtain rfl : n = s.size + 1 := by omega
        have hnl : ¬ ((s.size : Int) + 1 ≤ (s.size : Int)) := by omega
        rw [← HA.out] at HT
        by_cases hneg : at_ < 0
        · have h0 : at_.toNat = 0 := by omega
          have HE : Hid (s.data.toList = trimL _ s.data.toList t) := hid (by rw [HT.out, h0]; rfl)
          clear h0
          go_wp2_with fail
          go_ret2
          exact ⟨ret_str2 (str_eq _ _ HE.out), hb⟩
        · have HE := hid (ext_drop s at_.toNat)
          go_wp2_with fail
          go_ret2
          exact ⟨ret_str2 (str_eq _ _ (by rw [HT.out, ← HE.out])), hb⟩
set_option maxRecDepth 100000 in
set_option maxHeartbeats 3000000 in
theorem reftrim_tail (op : Int) (s : ByteArray) (v : Value) (t : List Ch) (w : World) (h : Rd w v t.length (chs t)) (ht : t.length ≤ 10000) (hs : s.size ≤ 4096) (hop : op = 8 ∨ op = 9) :
    Calls Tryd.prog 9 #[.int .i64 op, .string s, v] w fun e w' => e = .returned (.tuple #[.string ⟨(trimL op s.data.toList t).toArray⟩, .int .i64 0]) ∧ Below w.heap.size w w' := by
  obtain ⟨A, cap, rfl, _, _⟩ := h.open_
  have HR := hid h
  clear h
  have hsl : s.data.toList.length = s.size := by simp
  obtain ⟨lg, hlg⟩ : ∃ lg : Bool, lg = (op == 9) := ⟨_, rfl⟩
  have HT : Hid (trimL op s.data.toList t = s.data.toList.take (s.size - (best (tl (compile t) s.data.toList) lg (s.size + 1)).toNat)) := hid (by rw [trimL, if_neg (by omega), hsl, hlg])
  have HFW := hid (compile_few t)
  clear hsl
  rcases hop with rfl | rfl
  all_goals
    go_enter Tryd.func9, Tryd.ntmps9
    go_wp2_with fail
    ((with_reducible refine (refcompile_any _ t _ HR.out ht).mono ?_); rintro e w1 ⟨vp, rfl, hrp, hcl, hb1⟩)
    have HRP := hid hrp
    generalize compile t = p at *
    clear hrp
    obtain ⟨f, hf⟩ : ∃ f, f = tl p s.data.toList := ⟨_, rfl⟩
    rw [← hf] at HT
    have HF := hid hf
    clear hf
    obtain ⟨pa, pc, hpv⟩ : ∃ a c, vp = .slice a p.length c := by obtain ⟨ps, e1, ⟨a, c, e2, _⟩, _⟩ := HRP.out; exact ⟨a, c, by rw [e2, ← e1, List.length_map]⟩
    subst hpv
    have HLG := hid hlg
    clear hlg
    go_wp2_with fail
    go_loopw [9, 10] (fun va vn wr => ∃ (n : Nat) (at_ : Int), n ≤ s.size + 1 ∧ vn = .int .i64 n ∧ va = .int .i64 at_ ∧ Hid (at_ = best f lg n) ∧ Below w.heap.size w wr ∧ Below w1.heap.size w1 wr) (fun _ vn _ => s.size + 1 - (intOf vn).toNat)
    case atStart => exact ⟨0, -1, by omega, rfl, rfl, hid rfl, hb1, Below.refl _ _⟩
    case round =>
      clear hb1
      obtain ⟨n, at_, hn, rfl, rfl, HA, hb, hbb⟩ := hrel
      have hbd := best_bd f lg n
      rw [← HA.out] at hbd
      obtain ⟨hb1, hb2⟩ := hbd
      by_cases hlt : n ≤ s.size
      · have hsl : s.data.toList.length = s.size := by simp
        have HM : Hid ((s.extract (s.size - n) s.size).data.toList = s.data.toList.drop (s.data.toList.length - n)) := hid (by rw [hsl]; exact ext_drop s (s.size - n))
        clear hsl
        have hsub : ((s.size : Int) - (n : Int)).toNat = s.size - n := by omega
        have hes : (s.extract (s.size - n) s.size).size ≤ 100000 := by
          have := congrArg List.length (ext_drop s (s.size - n)); simp at this; simp; omega
        cases hfn : f n
        · have HN : Hid (at_ = best f lg (n + 1)) := hid (by rw [best_no _ _ _ hfn]; exact HA.out)
          have HFF : Hid (M p (s.extract (s.size - n) s.size).data.toList = false) := hid (by rw [HM.out, ← hfn, HF.out]; rfl)
          clear hfn
          go_wp2_with fail
          ((with_reducible refine (refmatch_any _ p _ _ (HRP.out.below hbb) (by omega) hes (fun x hx => by have := HFW.out x hx; omega)).mono ?_); rintro e w2 ⟨rfl, hb3⟩)
          rw [HFF.out]
          have hbF := hb.trans (hb3.mono hb.size)
          have hbG := hbb.trans (hb3.mono hbb.size)
          clear hb3
          go_wp2_with fail
          go_roundw
          case rel => exact ⟨n + 1, at_, by omega, by go_num, rfl, HN, hbF, hbG⟩
          case measure => simp [intOf]; omega
        · have HFF : Hid (M p (s.extract (s.size - n) s.size).data.toList = true) := hid (by rw [HM.out, ← hfn, HF.out]; rfl)
          by_cases hgo : lg = true ∨ at_ < 0
          · have HN : Hid ((n : Int) = best f lg (n + 1)) := hid (by rw [best_yes _ _ _ hfn (by rw [← HA.out]; exact hgo)])
            have hgo2 : at_ < 0 ∨ ¬ at_ < 0 := by omega
            have HGO := hid hgo
            clear hfn hgo
            rcases hgo2 with hneg | hneg
            all_goals
              go_wp2_with fail
              ((with_reducible refine (refmatch_any _ p _ _ (HRP.out.below hbb) (by omega) hes (fun x hx => by have := HFW.out x hx; omega)).mono ?_); rintro e w2 ⟨rfl, hb3⟩)
              rw [HFF.out]
              have hbF := hb.trans (hb3.mono hb.size)
              have hbG := hbb.trans (hb3.mono hbb.size)
              clear hb3
              first
                | (exfalso; have h1 := HGO.out; rw [HLG.out] at h1; rcases h1 with h1 | h1; (exact absurd h1 (by decide)); omega)
                | (go_wp2_with fail
                   go_roundw
                   case rel => exact ⟨n + 1, n, by omega, by go_num, rfl, HN, hbF, hbG⟩
                   case measure => simp [intOf]; omega)
          · obtain rfl : lg = false := by cases lg; rfl; exact (hgo (.inl rfl)).elim
            have hneg : ¬ at_ < 0 := fun h => hgo (.inr h)
            have HN : Hid (at_ = best f false (n + 1)) := hid (by rw [best_keep f n (by rw [← HA.out]; exact hneg)]; exact HA.out)
            clear hfn hgo
            first
              | (exact absurd HLG.out (by decide))
              | (go_wp2_with fail
                 ((with_reducible refine (refmatch_any _ p _ _ (HRP.out.below hbb) (by omega) hes (fun x hx => by have := HFW.out x hx; omega)).mono ?_); rintro e w2 ⟨rfl, hb3⟩)
                 rw [HFF.out]
                 have hbF := hb.trans (hb3.mono hb.size)
                 have hbG := hbb.trans (hb3.mono hbb.size)
                 clear hb3
                 go_wp2_with fail
                 go_roundw
                 case rel => exact ⟨n + 1, at_, by omega, by go_num, rfl, HN, hbF, hbG⟩
                 case measure => simp [intOf]; omega)
      · obtain rfl : n = s.size + 1 := by omega
        have hnl : ¬ ((s.size : Int) + 1 ≤ (s.size : Int)) := by omega
        rw [← HA.out] at HT
        by_cases hneg : at_ < 0
        · have h0 : at_.toNat = 0 := by omega
          have HE : Hid (s.data.toList = trimL _ s.data.toList t) := hid (by rw [HT.out, h0, Nat.sub_zero]; exact (List.take_of_length_le (by simp)).symm)
          clear h0
          go_wp2_with fail
          go_ret2
          exact ⟨ret_str2 (str_eq _ _ HE.out), hb⟩
        · have HE := hid (ext_take s ((s.size : Int) - at_).toNat)
          have HN : Hid (((s.size : Int) - at_).toNat = s.size - at_.toNat) := hid (by omega)
          go_wp2_with fail
          go_ret2
          exact ⟨ret_str2 (str_eq _ _ (by rw [HT.out, ← HN.out, ← HE.out])), hb⟩
set_option maxHeartbeats 400000 in
theorem reftrim_arg (op : Int) (s : ByteArray) (v : Value) (w : World) (h : op < 6 ∨ 9 < op) :
    Calls Tryd.prog 9 #[.int .i64 op, .string s, v] w fun e w' => e = .returned (.tuple #[.string ⟨#[]⟩, .int .i64 1]) ∧ w = w' := by
  have h6 : (op != 6) = true := by rw [bne_iff_ne]; omega
  have h7 : (op != 7) = true := by rw [bne_iff_ne]; omega
  have h8 : (op != 8) = true := by rw [bne_iff_ne]; omega
  have h9 : (op != 9) = true := by rw [bne_iff_ne]; omega
  go_enter Tryd.func9, Tryd.ntmps9
  go_wp2_with fail
  go_ret2
  exact ⟨rfl, rfl⟩
set_option maxHeartbeats 800000 in
theorem reftrim_big (op : Int) (s : ByteArray) (v : Value) (w : World) (h6 : 6 ≤ op) (h9 : op ≤ 9) (hs : 4096 < s.size) (hs9 : s.size ≤ 9223372036854775807) :
    Calls Tryd.prog 9 #[.int .i64 op, .string s, v] w fun e w' => e = .returned (.tuple #[.string ⟨#[]⟩, .int .i64 21]) ∧ w = w' := by
  have hc : op = 6 ∨ op = 7 ∨ op = 8 ∨ op = 9 := by omega
  clear h6 h9
  rcases hc with rfl | rfl | rfl | rfl
  all_goals
    go_enter Tryd.func9, Tryd.ntmps9
    go_wp2_with fail
    go_ret2
    exact ⟨rfl, rfl⟩
end Go.Proofs.YthnmdhcgnimdfaaDoor
