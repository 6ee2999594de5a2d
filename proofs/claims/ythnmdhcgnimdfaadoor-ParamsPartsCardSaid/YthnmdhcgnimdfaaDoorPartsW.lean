/- The walk of ParamsParts: it returns true at every input. No condition but that lengths fit an int. -/
import Derived.Test.YthnmdhcgnimdfaaDoorG15
import Derived.Test.YthnmdhcgnimdfaaDoorAwk
set_option linter.unusedVariables false
set_option linter.unusedSimpArgs false
namespace Go.Proofs.YthnmdhcgnimdfaaDoor
open Go.RowKit
attribute [local go_sem ↓] Go.wp_at_zero Go.wp_at_succ
theorem mk_append (q : Bool) (a b : List UInt8) : mk q (a ++ b) = mk q a ++ mk q b := by simp [mk]
theorem mk_clean (b : UInt8) (l : List UInt8) (h : ∀ c ∈ l, c ≠ b) : ∀ c ∈ mk false l, c ≠ (b, false) := by
  intro c hc
  simp only [mk, List.mem_map] at hc
  obtain ⟨x, hx, rfl⟩ := hc
  intro e; exact h x hx (by simpa using congrArg Prod.fst e)
/-- the parts of joined texts are the texts -/
theorem part_join (b : UInt8) (x : List UInt8) (r : List (List UInt8)) (h : ∀ l ∈ x :: r, ∀ c ∈ l, c ≠ b) : partL b (mk false (Lib.join (x :: r) [b])) = (x :: r).map (mk false) := by
  induction r generalizing x with
  | nil => rw [Lib.join_one, partL_last b _ (mk_clean b x (h x (by simp)))]; rfl
  | cons y r ih =>
    have e : Lib.join (x :: y :: r) [b] = x ++ b :: Lib.join (y :: r) [b] := by
      rw [Lib.join_cons, Lib.join_cons]; simp [Lib.joinTail]
    rw [e, mk_append]
    have e2 : mk false (b :: Lib.join (y :: r) [b]) = (b, false) :: mk false (Lib.join (y :: r) [b]) := rfl
    rw [e2, partL_clean b _ _ (mk_clean b x (h x (by simp))), ih y (fun l hl => h l (by simp at hl ⊢; exact .inr hl))]
    rfl
theorem mk_fst (q : Bool) (l : List UInt8) : (mk q l).map Prod.fst = l := by simp [mk, Function.comp_def]
theorem sep_b (b : UInt8) (s : ByteArray) : (sepOf ((⟨#[b]⟩ : ByteArray) ++ s) true).data.toList = [b] := by
  have h1 : ((⟨#[b]⟩ : ByteArray) ++ s).size ≠ 0 := by
    rw [ByteArray.size_append]; show 1 + s.size ≠ 0; omega
  unfold sepOf
  rw [if_pos rfl, if_neg h1, ext_take, ByteArray.data_append, Array.toList_append]
  rfl
theorem plain_is (v : Value) (t : List Ch) (w : World) (h : Rd w v t.length (chs t)) (hl : t.length ≤ 1000000) (r : ByteArray) (hr : (⟨(t.map Prod.fst).toArray⟩ : ByteArray) = r) :
    Calls Tryd.prog 20 #[v] w fun e w' => e = .returned (.string r) ∧ Below w.heap.size w w' := by rw [← hr]; exact plain_any v t w h hl
set_option maxRecDepth 100000 in
set_option maxHeartbeats 4000000 in
theorem parts_any (va : Value) (l : List ByteArray) (b : UInt8) (s : ByteArray) (w : World) (h : Rd w va l.length (strs l)) (hl9 : l.length ≤ 9223372036854775807) (hls : ∀ x ∈ l, x.size ≤ 9223372036854775807) (hs9 : s.size ≤ 9223372036854775807) :
    Calls Tryd.prog 6 #[va, .int .u8 (b.toNat : Int), .string s] w fun e w' => e = .returned (.bool true) ∧ Below w.heap.size w w' := by
  have HR := hid h
  obtain ⟨A, cap, rfl, _, hx⟩ := h.open_
  clear h
  cases hf : fewB l with
  | false =>
    have HF := hid hf
    clear hf hx
    go_enter Tryd.func6, Tryd.ntmps6
    go_wp2_with fail
    ((with_reducible refine (few_any _ l _ HR.out hl9 hls).mono ?_); rintro e w1 ⟨rfl, rfl⟩)
    rw [HF.out]
    go_wp2_with fail
    ((with_reducible refine (awake_any _).mono ?_); rintro e w2 ⟨rfl, hb⟩)
    go_wp2_with fail
    go_ret
    exact ⟨rfl, hb⟩
  | true =>
    have HF := hid hf
    have hfw : l.length ≤ 30 ∧ ∀ x ∈ l, x.size ≤ 100 := by
      simp only [fewB, Bool.and_eq_true, decide_eq_true_eq, List.all_eq_true] at hf
      exact ⟨hf.1, hf.2⟩
    obtain ⟨hl, hsz⟩ := hfw
    clear hf
    by_cases h100 : 100 < s.size
    · clear hsz hx
      go_enter Tryd.func6, Tryd.ntmps6
      go_wp2_with fail
      ((with_reducible refine (few_any _ l _ HR.out hl9 hls).mono ?_); rintro e w1 ⟨rfl, rfl⟩)
      rw [HF.out]
      go_wp2_with fail
      ((with_reducible refine (awake_any _).mono ?_); rintro e w2 ⟨rfl, hb⟩)
      go_wp2_with fail
      go_ret
      exact ⟨rfl, hb⟩
    · have d1 : decide ((100 : Int) < (s.size : Int)) = false := by simp; omega
      have HSZ := hid hsz
      have HLS := hid hls
      clear hsz hls
      go_enter Tryd.func6, Tryd.ntmps6
      go_wp2_with fail
      ((with_reducible refine (few_any _ l _ HR.out hl9 HLS.out).mono ?_); rintro e w1 ⟨rfl, rfl⟩)
      rw [HF.out]
      go_wp2_with fail
      go_loop [7] (fun vi => ∃ i : Nat, i ≤ l.length ∧ vi = .int .i64 i ∧ Hid (∀ j (hj : j < l.length), j < i → ∀ c ∈ l[j].data.toList, c ≠ b)) (fun vi => l.length - (intOf vi).toNat)
      case atStart => exact ⟨0, Nat.zero_le _, rfl, hid (fun j hj h0 => by omega)⟩
      case round =>
        obtain ⟨i, hi, rfl, HK⟩ := hrel
        by_cases hlt : i < l.length
        · rcases hx with hx | ⟨g, off, rfl, hc⟩
          · exact (strs_ne hlt hx).elim
          · have hcell := hc i _ (strs_at l i hlt)
            have hi0 : (0 : Int) ≤ (i : Int) := Int.natCast_nonneg _
            have hi1 : (i : Int) < (l.length : Int) := by omega
            have hrs := HSZ.out l[i] (List.getElem_mem hlt)
            obtain ⟨r, hr⟩ : ∃ r, l[i] = r := ⟨_, rfl⟩
            rw [hr] at hcell hrs
            have HRr := hid hr
            have HRL := hid (show r.data.toList.length = r.size by simp)
            clear hc hr
            go_wp2_with fail
            go_loop [8] (fun vk => ∃ k : Nat, k ≤ r.size ∧ vk = .int .i64 k ∧ Hid (∀ c ∈ r.data.toList.take k, c ≠ b)) (fun vk => r.size - (intOf vk).toNat)
            case atStart => exact ⟨0, Nat.zero_le _, rfl, hid (fun c hc => by simp at hc)⟩
            case round =>
              obtain ⟨k, hk, rfl, HC⟩ := hrel
              by_cases hkt : k < r.size
              · have hkL : k < r.data.toList.length := by rw [HRL.out]; exact hkt
                have HSI := hid (show r.data.toList[k] = r[k] by rw [Array.getElem_toList]; rfl)
                have hk0 : (0 : Int) ≤ (k : Int) := Int.natCast_nonneg _
                have hk1 : (k : Int) < (r.size : Int) := by omega
                by_cases he : r[k] = b
                · have hb : ((r[k].toNat : Int) == (b.toNat : Int)) = true := by rw [u8_eq]; simp [he]
                  clear he HC HK
                  go_wp2_with fail
                  ((with_reducible refine (awake_any _).mono ?_); rintro e w2 ⟨rfl, hb2⟩)
                  go_wp2_with fail
                  go_ret
                  exact ⟨rfl, hb2⟩
                · have hb : ((r[k].toNat : Int) == (b.toNat : Int)) = false := by rw [u8_eq]; simpa using he
                  have HC' : Hid (∀ c ∈ r.data.toList.take (k + 1), c ≠ b) := hid (fun c hc => by
                    rw [List.take_succ_eq_append_getElem hkL] at hc
                    rcases List.mem_append.1 hc with hc | hc
                    · exact HC.out c hc
                    · simp only [List.mem_singleton] at hc
                      rw [hc, HSI.out]; exact he)
                  clear he HC
                  go_wp2_with fail
                  go_round
                  case rel => exact ⟨k + 1, by omega, by go_num, HC'⟩
                  case measure => simp [intOf]; omega
              · obtain rfl : k = r.size := by omega
                have HK' : Hid (∀ j (hj : j < l.length), j < i + 1 → ∀ c ∈ l[j].data.toList, c ≠ b) := hid (fun j hj h0 => by
                  by_cases hji : j < i
                  · exact HK.out j hj hji
                  · obtain rfl : j = i := by omega
                    intro c hc
                    rw [HRr.out] at hc
                    exact HC.out c (by rw [List.take_of_length_le (by rw [HRL.out]; exact Nat.le_refl _)]; exact hc))
                clear HC HK
                go_wp2_with fail
                go_round
                case rel => exact ⟨i + 1, by omega, by go_num, HK'⟩
                case measure => simp [intOf]; omega
        · obtain rfl : i = l.length := by omega
          have hsb := sep_b b s
          have hjl := jn_len l [b] HSZ.out (by simp) l.length (Nat.le_refl _)
          rw [List.take_length] at hjl
          have hjn : jn l [b] = Lib.join (l.map (·.data.toList)) [b] := rfl
          have hcat : ((⟨#[b]⟩ : ByteArray) ++ s).size ≤ 9223372036854775807 := by rw [ByteArray.size_append]; show 1 + s.size ≤ _; omega
          have hcv := one_byte (w.alloc (.cells #[.int .u8 (b.toNat : Int)] 5)) w.heap.size b (by simp)
          have hss : s.size ≤ 9223372036854775806 := by omega
          have hlenj : (Lib.join (l.map (·.data.toList)) (sepOf ((⟨#[b]⟩ : ByteArray) ++ s) true).data.toList).length ≤ 100000000 := by rw [hsb, ← hjn]; omega
          have HPJ : ∀ w' : World, Rd w' (.slice A l.length cap) l.length (strs l) → Calls Tryd.prog 15 #[.slice A l.length cap, .string ((⟨#[b]⟩ : ByteArray) ++ s), .bool true] w' fun e w2 => e = .returned (.string ⟨(jn l [b]).toArray⟩) ∧ Below w'.heap.size w' w2 := fun w' hw => by
            have := pjoin_any _ l ((⟨#[b]⟩ : ByteArray) ++ s) true w' hw (by omega) hlenj hcat
            rw [hsb] at this; exact this
          have HPR : Hid (l ≠ [] → partL b (mk false (jn l [b])) = l.map fun x => mk false x.data.toList) := hid (fun hne => by
            have hcl := HK.out
            rw [hjn]
            cases l with
            | nil => exact (hne rfl).elim
            | cons x r =>
              rw [List.map_cons, part_join b _ _ (by
                intro y hy c hc
                have hy' : y ∈ (x :: r).map (fun x : ByteArray => x.data.toList) := hy
                obtain ⟨z, hz, rfl⟩ := List.mem_map.1 hy'
                obtain ⟨j, hj, rfl⟩ := List.mem_iff_getElem.1 hz
                exact hcl j hj hj c hc)]
              simp)
          have HJ0 : Hid (l = [] → jn l [b] = []) := hid (fun h => by rw [h]; rfl)
          have hH := hid HPJ
          clear HPJ hlenj hcat hsb hjn HK
          generalize jn l [b] = J at *
          have hJsz : (⟨J.toArray⟩ : ByteArray).size ≤ 1000000 := by show J.toArray.size ≤ _; rw [List.size_toArray]; omega
          have hmk : (mk false J).length ≤ 100000 := by simp [mk]; omega
          have hsz1 : w.heap.size ≤ (w.alloc (.cells #[.int .u8 (b.toNat : Int)] 5)).heap.size := by simp
          go_wp2_with fail
          ((with_reducible refine (hH.out _ (HR.out.alloc _)).mono ?_); rintro e w2 ⟨rfl, hb2⟩)
          have hB2 := ((Below.refl w.heap.size w).alloc (Nat.le_refl _) (.cells #[.int .u8 (b.toNat : Int)] 5)).trans (hb2.mono hsz1)
          clear hb2 hH hcv
          go_wp2_with fail
          ((with_reducible refine (of_any ⟨J.toArray⟩ false _ hJsz).mono ?_); rintro e w3 ⟨v3, rfl, hr3, hb3⟩)
          have hB3 := hB2.trans (hb3.mono hB2.size)
          have hr3 : Rd w3 v3 (mk false J).length (chs (mk false J)) := hr3
          clear hb3 hB2
          go_wp2_with fail
          ((with_reducible refine (part_any _ (mk false J) b _ hr3 hmk).mono ?_); rintro e w4 ⟨v4, rfl, hr4, hb4⟩)
          have hB4 := hB3.trans (hb4.mono hB3.size)
          clear hb4 hB3 hr3
          obtain ⟨us, hul, hru, hus⟩ := hr4
          obtain ⟨pa, pc, rfl, hpc, hpx⟩ := hru.open_
          by_cases h0 : l.length = 0
          · have hl0 : l = [] := List.eq_nil_of_length_eq_zero h0
            have hJ := HJ0.out hl0
            subst hl0
            subst hJ
            clear HPR hpx hus hru hul hx
            go_wp2_with fail
            ((with_reducible refine (awake_any _).mono ?_); rintro e w5 ⟨rfl, hb5⟩)
            go_wp2_with fail
            go_ret
            exact ⟨rfl, hB4.trans (hb5.mono hB4.size)⟩
          · have hne : l ≠ [] := fun e => h0 (by rw [e]; rfl)
            have hP := HPR.out hne
            rw [hP] at hul hus
            rw [List.length_map] at hul
            have hl1 : ((l.length : Int) == 0) = false := by simp; omega
            have HUL := hid hul
            rw [hul] at hpc ⊢
            clear hul hru hP HPR h0
            go_wp2_with fail
            go_loopw [11] (fun vi wr => ∃ i : Nat, i ≤ l.length ∧ vi = .int .i64 i ∧ Below w4.heap.size w4 wr) (fun vi _ => l.length - (intOf vi).toNat)
            case atStart => exact ⟨0, Nat.zero_le _, rfl, Below.refl _ _⟩
            case round =>
              obtain ⟨i, hi, rfl, hbr⟩ := hrel
              by_cases hlt : i < l.length
              · have hiu : i < us.length := by rw [HUL.out]; exact hlt
                rcases hx with hx | ⟨g, off, rfl, hc⟩
                · exact (strs_ne hlt hx).elim
                · rcases hpx with hpx | ⟨g2, off2, rfl, hc2⟩
                  · rw [hpx] at hiu; simp at hiu
                  · have hcell := bel_cell hbr (bel_cell hB4 (hc i _ (strs_at l i hlt)))
                    have hcell2 := (show At w4 g2 off2 us from hc2).below hbr i us[i] (List.getElem?_eq_getElem hiu)
                    have hrd := (hus i us[i] (mk false l[i].data.toList) (List.getElem?_eq_getElem hiu) (by simp [List.getElem?_eq_getElem hlt])).below hbr
                    have hrs := HSZ.out l[i] (List.getElem_mem hlt)
                    have hml : (mk false l[i].data.toList).length ≤ 1000000 := by simp [mk]; omega
                    have hpe : (⟨((mk false l[i].data.toList).map Prod.fst).toArray⟩ : ByteArray) = l[i] := by rw [mk_fst]
                    clear hc hc2 hus
                    generalize us[i] = u at *
                    generalize l[i] = r at *
                    have hi0 : (0 : Int) ≤ (i : Int) := Int.natCast_nonneg _
                    have hi1 : (i : Int) < (l.length : Int) := by omega
                    have HRD : Hid (Rd wr.drew u (mk false r.data.toList).length (chs (mk false r.data.toList))) := hid hrd
                    obtain ⟨ua, un, uc, rfl⟩ : ∃ a n c, u = .slice a n c := by obtain ⟨a, c, h, _⟩ := hrd; exact ⟨a, _, c, h⟩
                    clear hrd
                    go_wp2_with fail
                    go_region_held3 (fun w' => w'.cell? ⟨g2, off2 + i, none⟩ = some (.slice ua un uc) ∧ w'.cell? ⟨g, off + i, none⟩ = some (.string r))
                      (first | go_keep | (go_split_ands; refine ⟨?_, ?_⟩ <;> (refine bel_cell hby ?_; assumption)))
                      (first | (go_at_call 20; refine (plain_is _ (mk false r.data.toList) _ HRD.out hml r hpe).mono ?_; rintro e wy ⟨rfl, hby⟩))
                    have hbF := hbr.drew.trans (hby.mono hbr.size)
                    clear hby hbr HRD hpe
                    go_wp2_with fail
                    go_roundw
                    case rel => exact ⟨i + 1, by omega, by go_num, hbF⟩
                    case measure => simp [intOf]; omega
              · have hB5 := hB4.trans (hbr.mono hB4.size)
                clear hx hpx hus
                go_wp2_with fail
                ((with_reducible refine (awake_any _).mono ?_); rintro e w6 ⟨rfl, hb6⟩)
                go_wp2_with fail
                go_ret
                exact ⟨rfl, hB5.trans (hb6.mono hB5.size)⟩
end Go.Proofs.YthnmdhcgnimdfaaDoor
