/- The walk of whelkref02.group without paths, for texts of up to a hundred thousand bytes. -/
import Derived.Test.YthnmdhcgnimdfaaDoorG19
set_option linter.unusedVariables false
set_option linter.unusedSimpArgs false
namespace Go.Proofs.YthnmdhcgnimdfaaDoor
open Go.RowKit
attribute [local go_sem ↓] Go.wp_at_zero Go.wp_at_succ
theorem Tryd.info104 : (Tryd.prog.info? 104).map (fun i => (i.zero, i.size, i.bytes)) = some (some (.agg #[.int .u8 0, .int .u8 0]), 2, 2) := by kernel_rfl
def RefGroupPost (t : List Ch) (i : Nat) (w : World) (e : Ending) (w' : World) : Prop :=
  Below w.heap.size w w' ∧ ((grp (t.drop (i + 1)) = none ∧ e = .returned (.tuple #[.agg #[.int .i64 0, .int .u8 0, .bool false, .slice none 0 0], .int .i64 0])) ∨
   ∃ ng l k u, grp (t.drop (i + 1)) = some (ng, l, k) ∧ e = .returned (.tuple #[.agg #[.int .i64 4, .int .u8 0, .bool ng, u], .int .i64 ((i + k + 1 : Nat) : Int)]) ∧ w'.ownsRow w.heap.size 104 2 u l.length (rgs l))
theorem is_of (v : Value) (t : List Ch) (j : Nat) (b : UInt8) {i bi : Int} (hi : (j : Int) = i) (hb : (b.toNat : Int) = bi) (w : World) (h : Rd w v t.length (chs t)) (hl : t.length ≤ 1000000) (hj : j ≤ 2000000) :
    Calls Tryd.prog 37 #[v, .int .i64 i, .int .u8 bi] w fun e w' => e = .returned (.bool (isB t j b)) ∧ w = w' := by subst hi hb; exact is_any v t j b w h hl hj
theorem kk_low (t : List Ch) (p k : Nat) (h1 : p + 2 ≤ k) (h2 : k < kk t p) : ∃ h : k < t.length, t[k].2 = false ∧ 97 ≤ t[k].1.toNat ∧ t[k].1.toNat ≤ 122 := by
  unfold kk lowN at h2
  have hlt : k - (p + 2) < ((t.drop (p + 2)).takeWhile low).length := by omega
  have hm := List.getElem_mem hlt
  have hpre := List.takeWhile_prefix low (l := t.drop (p + 2))
  have hlen := hpre.length_le
  rw [List.length_drop] at hlen
  have hl : low (((t.drop (p + 2)).takeWhile low)[k - (p + 2)]) = true := by
    have hall := List.all_takeWhile (p := low) (l := t.drop (p + 2))
    exact List.all_eq_true.1 hall _ hm
  rw [hpre.getElem, List.getElem_drop] at hl
  simp only [show p + 2 + (k - (p + 2)) = k by omega] at hl
  refine ⟨by omega, ?_⟩
  simpa [low, and_assoc] using hl
theorem kk_stop (t : List Ch) (p : Nat) (h : kk t p < t.length) : t[kk t p].2 = true ∨ (t[kk t p].2 = false ∧ t[kk t p].1.toNat < 97) ∨ (t[kk t p].2 = false ∧ 97 ≤ t[kk t p].1.toNat ∧ 122 < t[kk t p].1.toNat) := by
  have hl : low t[kk t p] = false := by
    have hk : lowN (t.drop (p + 2)) < (t.drop (p + 2)).length := by unfold kk at h; rw [List.length_drop]; omega
    have hg : t[kk t p] = (t.drop (p + 2))[lowN (t.drop (p + 2))] := by rw [List.getElem_drop]; rfl
    rw [hg]
    generalize t.drop (p + 2) = l at *
    clear hg h
    induction l with
    | nil => simp at hk
    | cons a r ih =>
      unfold lowN at hk ⊢
      cases ha : low a with
      | false => simp [List.takeWhile_cons, ha]
      | true =>
        simp only [List.takeWhile_cons, ha, if_true, List.length_cons, List.getElem_cons_succ] at hk ⊢
        exact ih (by unfold lowN; omega)
  generalize t[kk t p] = c at *
  cases hq : c.2
  · simp [low, hq] at hl
    by_cases h97 : c.1.toNat < 97
    · exact .inr (.inl ⟨rfl, h97⟩)
    · exact .inr (.inr ⟨rfl, by omega, hl (by omega)⟩)
  · exact .inl rfl
theorem kk_ge (t : List Ch) (p : Nat) : p + 2 ≤ kk t p := by unfold kk; omega
/-- what holds at the head of a round -/
structure GInv (t : List Ch) (i : Nat) (bv : Bool) (b p : Nat) (rs : List Rg) (u : Value) (w wr : World) : Prop where
  rg : RG t i bv b p rs
  k0 : Bk wr w.heap.size 76 #[.int .i64 0, .int .u8 0, .bool false, .slice none 0 0]
  k1 : Bk wr (w.heap.size + 1) 76 #[.int .i64 4, .int .u8 0, .bool bv, u]
  ow : wr.ownsRow (w.heap.size + 2) 104 2 u rs.length (rgs rs)
  few : rs.length ≤ 4 * p
  hb : Below w.heap.size w wr
  hz : w.heap.size + 2 ≤ wr.heap.size
theorem GInv.below {t : List Ch} {i : Nat} {bv : Bool} {b p : Nat} {rs : List Rg} {u : Value} {w wr wx : World} (g : GInv t i bv b p rs u w wr) (h : Below wr.heap.size wr wx) : GInv t i bv b p rs u w wx :=
  ⟨g.rg, g.k0.below h (by have := g.hz; omega), g.k1.below h (by have := g.hz; omega), own_below g.ow h, g.few, g.hb.trans (h.mono g.hb.size), Nat.le_trans g.hz h.size⟩
theorem GInv.app {t : List Ch} {i : Nat} {bv : Bool} {b p p' : Nat} {rs l : List Rg} {u v' : Value} {w wr w3 : World} (g : GInv t i bv b p rs u w wr) (hst : RG t i bv b p' (rs ++ l)) (hf : rs.length + l.length ≤ 4 * p')
    (hown3 : w3.ownsRow (w.heap.size + 2) 104 2 v' (rs.length + l.length) (rgs rs ++ rgs l)) (hgrow : wr.grownBy w3 u.ownBlock) : GInv t i bv b p' (rs ++ l) v' w (w3.setCell ⟨w.heap.size + 1, 3, none⟩ v') :=
  ⟨hst, (g.k0.grown hgrow (own_bk_ne g.ow g.k0 (by decide))).far (by simp) _, (g.k1.grown hgrow (own_bk_ne g.ow g.k1 (by decide))).set_ 3 _,
    by rw [rgs_append, List.length_append]; exact ownsRow_setCell_below hown3 (by simp) _, by rw [List.length_append]; exact hf,
    (g.hb.grown hgrow g.hb.size (fun j hj => by have := (g.ow.lt j hj).1; omega)).setCell (p := ⟨w.heap.size + 1, 3, none⟩) (by simp) v', by have := Nat.le_trans g.hz hgrow.size; simpa [World.setCell] using this⟩
theorem GInv.pass {t : List Ch} {i : Nat} {bv : Bool} {b p p' : Nat} {rs l : List Rg} {u : Value} {w wr : World} (g : GInv t i bv b p rs u w wr) (hst : RG t i bv b p' (rs ++ l)) (hl : l = []) (hp : p ≤ p') : GInv t i bv b p' rs u w wr := by
  subst hl
  rw [List.append_nil] at hst
  exact ⟨hst, g.k0, g.k1, g.ow, by have := g.few; omega, g.hb, g.hz⟩
set_option maxRecDepth 100000 in
set_option maxHeartbeats 4000000 in
theorem refgroup_any (v : Value) (t : List Ch) (i : Nat) (w : World) (h : Rd w v t.length (chs t)) (hl : t.length ≤ 100000) (hi : i < t.length) :
    Calls Tryd.prog 38 #[v, .int .i64 (i : Int), .bool false] w (RefGroupPost t i w) := by
  have HR := hid h
  obtain ⟨g, off, cap, rfl, hcap, hat⟩ := h.form (by intro e; have := chs_len t; rw [e] at this; simp at this; omega)
  have HA : Hid (At w g off (chs t)) := hid hat
  clear h hat
  obtain ⟨i0, hi0, hz0, hz1, hz2⟩ := info_parts Tryd.info104
  have HS0 := hid (RG.start hi)
  generalize hng : isB t (i + 1) 33 = ng at *
  have HNG := hid hng
  clear hng
  have k0 : ∀ bv, Bk ((w.alloc (.cells #[.int .i64 0, .int .u8 0, .bool false, .slice none 0 0] 76)).alloc (.cells #[.int .i64 4, .int .u8 0, .bool bv, .slice none 0 0] 76)) w.heap.size 76 #[.int .i64 0, .int .u8 0, .bool false, .slice none 0 0] := fun bv => (Bk.new w 76 #[.int .i64 0, .int .u8 0, .bool false, .slice none 0 0]).alloc _
  have k1 : ∀ bv, Bk ((w.alloc (.cells #[.int .i64 0, .int .u8 0, .bool false, .slice none 0 0] 76)).alloc (.cells #[.int .i64 4, .int .u8 0, .bool bv, .slice none 0 0] 76)) (w.heap.size + 1) 76 #[.int .i64 4, .int .u8 0, .bool bv, .slice none 0 0] := fun bv => heap2_1 _ _ _
  have hG0 : ∀ bv b, RG t i bv b b [] → Hid (GInv t i bv b b [] (.slice none 0 0) w ((w.alloc (.cells #[.int .i64 0, .int .u8 0, .bool false, .slice none 0 0] 76)).alloc (.cells #[.int .i64 4, .int .u8 0, .bool bv, .slice none 0 0] 76))) := fun bv b hr => hid
    ⟨hr, k0 bv, k1 bv, World.ownsRow_nil _ _ _ _, by simp, ((Below.refl w.heap.size w).alloc (Nat.le_refl _) _).alloc (by simp) _, by simp⟩
  clear k0 k1
  have hG1 := hG0 _ _ HS0.out
  clear hG0 HS0
  go_enter Tryd.func38, Tryd.ntmps38
  go_wp2_with fail
  ((with_reducible refine (is_of _ t (i + 1) 33 (i := (i : Int) + 1) (bi := 33) (by omega) rfl _ ((HR.out.alloc _).alloc _) (by omega) (by omega)).mono ?_); rintro e w1 ⟨rfl, rfl⟩)
  rw [HNG.out]
  go_upto_if 19 with fail
  go_cut [1] (fun s1 wx => ∃ b : Nat, s1 = .int .i64 b ∧ Hid (GInv t i ng b b [] (.slice none 0 0) w wx))
  case first =>
    cases ng
    · go_wp2_with fail
      go_meet
      exact ⟨i + 1, by go_num, hG1⟩
    · go_wp2_with fail
      go_meet
      exact ⟨i + 1 + 1, by go_num, hG1⟩
  case rest =>
    clear hG1 HNG
    obtain ⟨b, rfl, HG⟩ := hcut
    have hbl : b ≤ t.length := HG.out.rg.hi
    go_wp2_with fail
    go_loopw [1] (fun vi wr => ∃ (p : Nat) (rs : List Rg) (u : Value), p ≤ t.length ∧ vi = .int .i64 p ∧ Hid (GInv t i ng b p rs u w wr)) (fun vi _ => t.length - (intOf vi).toNat)
    case atStart => exact ⟨b, [], .slice none 0 0, hbl, rfl, HG⟩
    case round =>
      clear HG
      obtain ⟨p, rs, u, hp, rfl, HG⟩ := hrel
      obtain ⟨ua, uc, rfl⟩ := own_slice HG.out.ow
      have hb : Below w.heap.size w wr := HG.out.hb
      by_cases hlt : p < t.length
      · go_upto_region 8 with fail
        go_cut [35] (fun s wx => s = .bool (decide (b < p) && isB t p 93) ∧ wr = wx)
        case first =>
          by_cases hbp : b < p
          · have hd : decide (b < p) = true := by simpa using hbp
            go_wp2_with fail
            ((with_reducible refine (is_of _ t p 93 (i := (p : Int)) (bi := 93) rfl rfl _ (HR.out.below hb) (by omega) (by omega)).mono ?_); rintro e w1 ⟨rfl, rfl⟩)
            go_wp2_with fail
            go_meet
            exact ⟨by simp [hbp], rfl⟩
          · have hd : decide (b < p) = false := by simpa using hbp
            go_wp2_with fail
            go_meet
            exact ⟨by simp [hd], rfl⟩
        case rest =>
          obtain ⟨rfl, rfl⟩ := hcut
          cases hcl : (decide (b < p) && isB t p 93)
          · have HNO := hid hcl
            clear hcl
            obtain ⟨K, hK⟩ : ∃ K, K = kk t p := ⟨_, rfl⟩
            have hK2 : p + 2 ≤ K := by rw [hK]; exact kk_ge t p
            have hK3 : K ≤ t.length + 2 := by
              rw [hK]
              by_cases h : p + 2 ≤ t.length
              · have := kk_le t p h; omega
              · unfold kk; rw [List.drop_eq_nil_of_le (by omega)]; simp [lowN]; omega
            have HK := hid hK
            clear hK
            go_upto_block 2 with fail
            go_cut [10] (fun s wx => s = .int .i64 (K : Int) ∧ wr = wx)
            case first =>
              as_aux_lemma =>
                go_wp2_with fail
                go_loop [10] (fun vk => ∃ k : Nat, p + 2 ≤ k ∧ k ≤ K ∧ vk = .int .i64 k) (fun vk => K - (intOf vk).toNat)
                case atStart => exact ⟨p + 2, by omega, hK2, by go_num⟩
                case round =>
                  obtain ⟨k, hk1, hk2, rfl⟩ := hrel
                  by_cases hkl : k < K
                  · obtain ⟨hlt2, hq, h97, h122⟩ := kk_low t p k hk1 (by rw [← HK.out]; exact hkl)
                    obtain ⟨c1, c2⟩ := (HA.out.below hb).ch k hlt2
                    generalize t[k] = c at *
                    rw [hq] at c2
                    clear hq
                    go_wp2_with fail
                    go_round
                    case rel => exact ⟨k + 1, by omega, by omega, by go_num⟩
                    case measure => simp [intOf]; omega
                  · obtain rfl : k = K := by omega
                    by_cases hkt : k < t.length
                    · have hcs := kk_stop t p (by rw [← HK.out]; exact hkt)
                      simp only [← HK.out] at hcs
                      obtain ⟨c1, c2⟩ := (HA.out.below hb).ch k hkt
                      generalize t[k] = c at *
                      rcases hcs with hq | ⟨hq, hx1⟩ | ⟨hq, hx0, hx1⟩
                      all_goals
                        rw [hq] at c2
                        clear hq
                        go_wp2_with fail
                        go_meet
                        exact ⟨rfl, rfl⟩
                    · have hge : decide (k < t.length) = false := by simpa using hkt
                      go_wp2_with fail
                      go_meet
                      exact ⟨rfl, rfl⟩
            case rest =>
              obtain ⟨rfl, rfl⟩ := hcut
              go_upto_region 13 with fail
              go_cut [96] (fun s wx => s = .bool (nmB t p) ∧ wr = wx)
              case first =>
                as_aux_lemma =>
                  have HN : Hid (nmB t p = (isB t p 91 && isB t (p + 1) 58 && decide (p + 2 < K) && isB t K 58 && isB t (K + 1) 93)) := hid (by rw [HK.out]; rfl)
                  cases h1 : isB t p 91
                  · have H1 := hid h1
                    clear h1
                    go_wp2_with fail
                    ((with_reducible refine (is_of _ t p 91 (i := (p : Int)) (bi := 91) rfl rfl _ (HR.out.below hb) (by omega) (by omega)).mono ?_); rintro e w1 ⟨rfl, rfl⟩)
                    rw [H1.out]
                    go_wp2_with fail
                    go_meet
                    exact ⟨by rw [HN.out, H1.out]; rfl, rfl⟩
                  have H1 := hid h1
                  clear h1
                  cases h2 : isB t (p + 1) 58
                  · have H2 := hid h2
                    clear h2
                    go_wp2_with fail
                    ((with_reducible refine (is_of _ t p 91 (i := (p : Int)) (bi := 91) rfl rfl _ (HR.out.below hb) (by omega) (by omega)).mono ?_); rintro e w1 ⟨rfl, rfl⟩)
                    rw [H1.out]
                    go_wp2_with fail
                    ((with_reducible refine (is_of _ t (p + 1) 58 (i := (p : Int) + 1) (bi := 58) rfl rfl _ (HR.out.below hb) (by omega) (by omega)).mono ?_); rintro e w1 ⟨rfl, rfl⟩)
                    rw [H2.out]
                    go_wp2_with fail
                    go_meet
                    exact ⟨by rw [HN.out, H1.out, H2.out]; rfl, rfl⟩
                  have H2 := hid h2
                  clear h2
                  by_cases h3 : p + 2 < K
                  case neg =>
                    have H3 : Hid (decide (p + 2 < K) = false) := hid (by simpa using h3)
                    go_wp2_with fail
                    ((with_reducible refine (is_of _ t p 91 (i := (p : Int)) (bi := 91) rfl rfl _ (HR.out.below hb) (by omega) (by omega)).mono ?_); rintro e w1 ⟨rfl, rfl⟩)
                    rw [H1.out]
                    go_wp2_with fail
                    ((with_reducible refine (is_of _ t (p + 1) 58 (i := (p : Int) + 1) (bi := 58) rfl rfl _ (HR.out.below hb) (by omega) (by omega)).mono ?_); rintro e w1 ⟨rfl, rfl⟩)
                    rw [H2.out]
                    go_wp2_with fail
                    go_meet
                    exact ⟨by rw [HN.out, H1.out, H2.out, H3.out]; rfl, rfl⟩
                  have H3 : Hid (decide (p + 2 < K) = true) := hid (by simpa using h3)
                  cases h4 : isB t K 58
                  · have H4 := hid h4
                    clear h4
                    go_wp2_with fail
                    ((with_reducible refine (is_of _ t p 91 (i := (p : Int)) (bi := 91) rfl rfl _ (HR.out.below hb) (by omega) (by omega)).mono ?_); rintro e w1 ⟨rfl, rfl⟩)
                    rw [H1.out]
                    go_wp2_with fail
                    ((with_reducible refine (is_of _ t (p + 1) 58 (i := (p : Int) + 1) (bi := 58) rfl rfl _ (HR.out.below hb) (by omega) (by omega)).mono ?_); rintro e w1 ⟨rfl, rfl⟩)
                    rw [H2.out]
                    go_wp2_with fail
                    ((with_reducible refine (is_of _ t K 58 (i := (K : Int)) (bi := 58) rfl rfl _ (HR.out.below hb) (by omega) (by omega)).mono ?_); rintro e w1 ⟨rfl, rfl⟩)
                    rw [H4.out]
                    go_wp2_with fail
                    go_meet
                    exact ⟨by rw [HN.out, H1.out, H2.out, H3.out, H4.out]; rfl, rfl⟩
                  have H4 := hid h4
                  clear h4
                  go_wp2_with fail
                  ((with_reducible refine (is_of _ t p 91 (i := (p : Int)) (bi := 91) rfl rfl _ (HR.out.below hb) (by omega) (by omega)).mono ?_); rintro e w1 ⟨rfl, rfl⟩)
                  rw [H1.out]
                  go_wp2_with fail
                  ((with_reducible refine (is_of _ t (p + 1) 58 (i := (p : Int) + 1) (bi := 58) rfl rfl _ (HR.out.below hb) (by omega) (by omega)).mono ?_); rintro e w1 ⟨rfl, rfl⟩)
                  rw [H2.out]
                  go_wp2_with fail
                  ((with_reducible refine (is_of _ t K 58 (i := (K : Int)) (bi := 58) rfl rfl _ (HR.out.below hb) (by omega) (by omega)).mono ?_); rintro e w1 ⟨rfl, rfl⟩)
                  rw [H4.out]
                  go_wp2_with fail
                  ((with_reducible refine (is_of _ t (K + 1) 93 (i := (K : Int) + 1) (bi := 93) rfl rfl _ (HR.out.below hb) (by omega) (by omega)).mono ?_); rintro e w1 ⟨rfl, rfl⟩)
                  go_wp2_with fail
                  go_meet
                  exact ⟨by rw [HN.out, H1.out, H2.out, H3.out, H4.out]; simp, rfl⟩
              case rest =>
                as_aux_lemma =>
                  obtain ⟨rfl, rfl⟩ := hcut
                  cases hnm : nmB t p
                  · have HNM := hid hnm
                    clear hnm
                    have c1 := ((HA.out.below hb).ch p hlt).1
                    obtain ⟨x, hx⟩ : ∃ x : UInt8, x = t[p].1 := ⟨_, rfl⟩
                    rw [← hx] at c1
                    have HX := hid hx
                    clear hx
                    have hp0 : (0 : Int) ≤ (p : Int) := Int.natCast_nonneg _
                    have hp1 : (p : Int) < (t.length : Int) := by omega
                    go_upto_region 19 with fail
                    go_cut [13] (fun s wx => s = .pointer (some ⟨wr.heap.size, 0, none⟩) ∧ Bk wx wr.heap.size 104 #[.int .u8 (x.toNat : Int), .int .u8 (x.toNat : Int)] ∧ Below wr.heap.size wr wx)
                    case first =>
                      go_region_held3 (fun w' => w'.cell? ⟨g, off + p * 2, none⟩ = some (.int .u8 (x.toNat : Int))) (go_keep) (fail)
                      all_goals
                        go_wp2_with fail
                        go_meet
                        exact ⟨rfl, (Bk.new wr 104 _).drew, ((Below.refl _ _).alloc (Nat.le_refl _) _).drew⟩
                    case rest =>
                      obtain ⟨rfl, kx, hbx⟩ := hcut
                      have HG2 := hid (HG.out.below hbx)
                      have hb2 := HG2.out.hb
                      clear c1
                      obtain ⟨wx, hwx⟩ : ∃ wx : World, wx = wc := ⟨_, rfl⟩
                      subst hwx
                      go_upto_region 21 with fail
                      go_cut [146] (fun s wy => s = .bool (rangeB t p) ∧ wx = wy)
                      case first =>
                        cases h1 : isB t (p + 1) 45
                        · have H1 := hid h1
                          clear h1
                          go_wp2_with fail
                          ((with_reducible refine (is_of _ t (p + 1) 45 (i := (p : Int) + 1) (bi := 45) rfl rfl _ (HR.out.below hb2) (by omega) (by omega)).mono ?_); rintro e w1 ⟨rfl, rfl⟩)
                          rw [H1.out]
                          go_wp2_with fail
                          go_meet
                          exact ⟨by simp [rangeB, H1.out], rfl⟩
                        have H1 := hid h1
                        clear h1
                        by_cases h2 : p + 2 < t.length
                        · go_wp2_with fail
                          ((with_reducible refine (is_of _ t (p + 1) 45 (i := (p : Int) + 1) (bi := 45) rfl rfl _ (HR.out.below hb2) (by omega) (by omega)).mono ?_); rintro e w1 ⟨rfl, rfl⟩)
                          rw [H1.out]
                          go_wp2_with fail
                          ((with_reducible refine (is_of _ t (p + 2) 93 (i := (p : Int) + 1 + 1) (bi := 93) rfl rfl _ (HR.out.below hb2) (by omega) (by omega)).mono ?_); rintro e w1 ⟨rfl, rfl⟩)
                          go_wp2_with fail
                          go_meet
                          exact ⟨by simp [rangeB, H1.out, h2], rfl⟩
                        · go_wp2_with fail
                          ((with_reducible refine (is_of _ t (p + 1) 45 (i := (p : Int) + 1) (bi := 45) rfl rfl _ (HR.out.below hb2) (by omega) (by omega)).mono ?_); rintro e w1 ⟨rfl, rfl⟩)
                          rw [H1.out]
                          go_wp2_with fail
                          go_meet
                          exact ⟨by simp [rangeB, H1.out, h2], rfl⟩
                      case rest =>
                        obtain ⟨rfl, rfl⟩ := hcut
                        go_upto_if 146 with fail
                        go_cut [1] (fun s wy => ∃ (k : Nat) (x y : UInt8), s = .int .i64 ((p + k : Nat) : Int) ∧ k ≤ 3 ∧ 1 ≤ k ∧ Bk wy wr.heap.size 104 #[.int .u8 (x.toNat : Int), .int .u8 (y.toNat : Int)] ∧ Below wr.heap.size wr wy ∧ Hid (thingB t[p] (t.drop (p + 1)) = some (rangeL x y, k)))
                        case first =>
                          cases hr : rangeB t p
                          · have HTH := hid (thing_one t p hlt HNM.out hr)
                            rw [← HX.out] at HTH
                            clear hr
                            go_wp2_with fail
                            go_meet
                            exact ⟨1, x, x, by go_num, by omega, by omega, kx, hbx, hid (by rw [HTH.out]; simp [rangeL])⟩
                          · obtain ⟨h2, hth⟩ := thing_range t p hlt HNM.out hr
                            have c3 := ((HA.out.below hb2).ch (p + 2) h2).1
                            rw [← HX.out] at hth
                            generalize t[p + 2] = y at *
                            have HTH := hid hth
                            clear hr hth
                            have f1 := kx.free 1
                            have c1 := kx.cell 1 _ rfl
                            have hbF := hbx.setCell (p := ⟨wr.heap.size, 1, none⟩) (Nat.le_refl _) (.int .u8 (y.1.toNat : Int))
                            have kF := kx.set_ 1 (.int .u8 (y.1.toNat : Int))
                            clear hbx kx
                            go_wp2_with fail
                            go_meet
                            exact ⟨3, x, y.1, by go_num, by omega, by omega, kF, hbF, HTH⟩
                        case rest =>
                          clear kx HG2 hbx hb2
                          obtain ⟨k, x, y, rfl, hk3, hk1, kx, hbx, HTH⟩ := hcut
                          have HG3 := hid (HG.out.below hbx)
                          have HST := hid (HG.out.rg.step hlt HNO.out HTH.out)
                          have hpl : p + k ≤ t.length := HST.out.hi
                          obtain ⟨x0, x1⟩ := (show _ ∧ _ from ⟨kx.cell 0 _ rfl, kx.cell 1 _ rfl⟩)
                          have hfew := HG.out.few
                          have hown := HG3.out.ow
                          have p3 := HG3.out.k1.cell 3 _ rfl
                          have hsz3 := HG3.out.hz
                          by_cases hxy : x.toNat ≤ y.toNat
                          · have hrl : rangeL x y = [(x, y)] := by rw [rangeL, if_pos hxy]
                            rw [hrl] at HST
                            clear hrl hb hbx
                            have HRL : Hid ((rs ++ [(x, y)]).length = rs.length + 1) := hid (by simp)
                            go_wp2_with (at_builtin; refine wpList_append_lies _ rfl _ _ 74 rfl (w.heap.size + 2) 104 i0 _ 2 2 Tryd.underlying74 hi0 hz0 hz1 hz2 rfl (by decide) (.slice ua rs.length uc) rs.length (rgs rs) rfl (hown.alloc _) ⟨wc.heap.size, 0, none⟩ 1 1 [.int .u8 (x.toNat : Int), .int .u8 (y.toNat : Int)] rfl rfl (World.news_of_block (cs := #[.int .u8 (x.toNat : Int), .int .u8 (y.toNat : Int)]) (t := 104) (fr := (0, 0)) (heap_alloc_new wc _)) (by simp [Value.oneCell']) (by omega) (by unfold maxLen; omega) (by omega) (by simp; omega) (wc.heap.size + 1) (by simp) ?_)
                            intro ga capn w4 hown4 hgrow hat4 hlt4
                            have HG4 := hid (HG3.out.below ((Below.refl wc.heap.size wc).alloc (Nat.le_refl _) (.cells #[.int .u8 (x.toNat : Int), .int .u8 (y.toNat : Int)] 104)))
                            have HGF := hid (HG4.out.app (l := [(x, y)]) HST.out (by simp; omega) hown4 hgrow)
                            have k1 := HG4.out.k1.grown hgrow (own_bk_ne HG4.out.ow HG4.out.k1 (by decide))
                            have p3 := k1.cell 3 _ rfl
                            have f3 := k1.free 3
                            clear hgrow hat4 hlt4 hown hown4 k1
                            go_wp2_with fail
                            go_roundw
                            case rel => exact ⟨p + k, rs ++ [(x, y)], _, by omega, by go_num, HGF⟩
                            case measure => simp [intOf]; omega
                          · have hrl : rangeL x y = [] := by rw [rangeL, if_neg hxy]
                            have HGF := hid (HG3.out.pass HST.out hrl (by omega))
                            clear hrl hb hbx hown
                            go_wp2_with fail
                            go_roundw
                            case rel => exact ⟨p + k, rs, .slice ua rs.length uc, by omega, by go_num, HGF⟩
                            case measure => simp [intOf]; omega
                  · have hsp : p + 2 < K ∧ K + 1 < t.length := by
                      have hn := hnm
                      unfold nmB at hn
                      rw [← HK.out] at hn
                      simp only [Bool.and_eq_true, decide_eq_true_eq] at hn
                      exact ⟨hn.1.1.2, isB_lt hn.2⟩
                    obtain ⟨hk3, hk5⟩ := hsp
                    have HTC := hid (thing_class t p hlt hnm)
                    rw [← HK.out] at HTC
                    clear hnm
                    have hcut2 : ∀ w, (Instr.slice 28 (.slice (some ⟨g, off, none⟩) t.length cap) (some (.int .i64 ((p : Int) + 2))) (some (.int .i64 (K : Int))) none).run Tryd.prog w = .ok (.slice (cutA (some ⟨g, off, none⟩) cap (p + 2) 2) (K - (p + 2)) (cap - (p + 2))) w := run_cut2 (P := Tryd.prog) 28 56 Tryd.underlying28 2 Tryd.sizeOf56 _ t.length cap (p + 2) K (by omega) (by omega)
                    have HC2 := hid ((HR.out.below hb).chs_mid (p + 2) K (by omega) (by omega))
                    have HML : Hid (((t.take K).drop (p + 2)).length ≤ 100000) := hid (by rw [List.length_drop, List.length_take]; omega)
                    go_wp2_with fail
                    ((with_reducible refine (refplain_any _ ((t.take K).drop (p + 2)) _ HC2.out HML.out).mono ?_); rintro e w2 ⟨rfl, hb2⟩)
                    have HG2 := hid (HG.out.below hb2)
                    generalize ((t.take K).drop (p + 2)).map Prod.fst = nm at *
                    clear hcut2
                    go_wp2_with fail
                    ((with_reducible refine (refclass_any nm _).mono ?_); rintro e w3 hcl)
                    rcases hcl with ⟨hnil, rfl, hb3⟩ | ⟨hne, g3, rfl, hat3, hb3⟩
                    · have HF := hid (HG.out.rg.none_ hlt HNO.out (HTC.out.1 hnil))
                      have HG3 := HG2.out.below hb3
                      obtain ⟨q0, q1, q2, q3⟩ := HG3.k0.cells4
                      obtain ⟨g0, g1, g2, g3⟩ := HG3.k0.free4
                      have hbF := (((HG3.hb.setCell (p := ⟨w.heap.size, 0, none⟩) (by simp) (.int .i64 0)).setCell (p := ⟨w.heap.size, 1, none⟩) (by simp) (.int .u8 0)).setCell (p := ⟨w.heap.size, 2, none⟩) (by simp) (.bool false)).setCell (p := ⟨w.heap.size, 3, none⟩) (by simp) (.slice none 0 0)
                      clear HG3 hb hb2 hb3 hnil
                      go_wp2_with fail
                      refine bodyPost_ret (v := .tuple #[.agg #[.int .i64 0, .int .u8 0, .bool false, .slice none 0 0], .int .i64 0]) (by simp [results, Tryd.results38, go_sem, q0, q1, q2, q3, g0, g1, g2, g3]) rfl ?_
                      exact ⟨hbF, .inl ⟨HF.out, rfl⟩⟩
                    · have HST := hid (HG.out.rg.step hlt HNO.out (HTC.out.2 hne))
                      have HG3 := hid (HG2.out.below hb3)
                      have hrd := hat3.rd (Nat.le_refl (classL nm).length)
                      have hl4 := class_few nm
                      clear hat3 hb2 hne HTC
                      generalize classL nm = l at *
                      have hfew := HG.out.few
                      have hpk : p + (K + 2 - p) = K + 2 := by omega
                      rw [hpk] at HST
                      clear hpk
                      have hown := HG3.out.ow
                      have p3 := HG3.out.k1.cell 3 _ rfl
                      have hsz3 := HG3.out.hz
                      clear hb hb3
                      go_wp2_with (at_builtin; refine wpList_append_rd _ rfl _ _ 74 rfl (w.heap.size + 2) 104 i0 _ 2 2 Tryd.underlying74 hi0 hz0 hz1 hz2 rfl (by decide) _ rs.length (rgs rs) rfl hown (.slice (some ⟨g3, 0, none⟩) l.length l.length) l.length (rgs l) rfl hrd (rgs_len _) (rgs_one _) (by unfold maxLen; omega) (by omega) (by omega) ?_)
                      intro v' w4 hown4 hgrow hat4
                      obtain ⟨va, vc, rfl⟩ := own_slice hown4
                      have HGF := hid (HG3.out.app HST.out (by omega) hown4 hgrow)
                      have k1 := HG3.out.k1.grown hgrow (own_bk_ne hown HG3.out.k1 (by decide))
                      have p3 := k1.cell 3 _ rfl
                      have f3 := k1.free 3
                      clear hgrow hat4 hown hown4 k1 hrd
                      go_wp2_with fail
                      go_roundw
                      case rel => exact ⟨K + 2, rs ++ l, .slice va (rs.length + l.length) vc, by omega, by go_num, HGF⟩
                      case measure => simp [intOf]; omega
          · have HF := hid (HG.out.rg.close hlt (by simp at hcl; exact hcl.1) (by simp at hcl; exact hcl.2))
            have hpi : i + 1 ≤ p := by have := HG.out.rg.lo; have := HG.out.rg.le; omega
            obtain ⟨q0, q1, q2, q3⟩ := HG.out.k0.cells4
            obtain ⟨p0, p1, p2, p3⟩ := HG.out.k1.cells4
            obtain ⟨g0, g1, g2, g3⟩ := HG.out.k0.free4
            have hbF := (((hb.setCell (p := ⟨w.heap.size, 0, none⟩) (by simp) (.int .i64 4)).setCell (p := ⟨w.heap.size, 1, none⟩) (by simp) (.int .u8 0)).setCell (p := ⟨w.heap.size, 2, none⟩) (by simp) (.bool ng)).setCell (p := ⟨w.heap.size, 3, none⟩) (by simp) (.slice ua rs.length uc)
            have how2 := hid (own_low (b' := w.heap.size) (ownsRow_setCell_below (a := ⟨w.heap.size, 3, none⟩) (ownsRow_setCell_below (a := ⟨w.heap.size, 2, none⟩) (ownsRow_setCell_below (a := ⟨w.heap.size, 1, none⟩) (ownsRow_setCell_below (a := ⟨w.heap.size, 0, none⟩) HG.out.ow (by simp) (.int .i64 4)) (by simp) (.int .u8 0)) (by simp) (.bool ng)) (by simp) (.slice ua rs.length uc)) (by omega))
            clear HG hb hcl
            go_wp2_with fail
            refine bodyPost_ret (v := .tuple #[.agg #[.int .i64 4, .int .u8 0, .bool ng, .slice ua rs.length uc], .int .i64 ((p : Int) + 1)]) (by simp [results, Tryd.results38, go_sem, q0, q1, q2, q3, g0, g1, g2, g3]) rfl ?_
            exact ⟨hbF, .inr ⟨_, _, p - i, _, HF.out, by rw [show i + (p - i) + 1 = p + 1 by omega]; rfl, how2.out⟩⟩
      · have HF := hid (HG.out.rg.fin hlt)
        obtain ⟨q0, q1, q2, q3⟩ := HG.out.k0.cells4
        obtain ⟨g0, g1, g2, g3⟩ := HG.out.k0.free4
        have hbF := (((hb.setCell (p := ⟨w.heap.size, 0, none⟩) (by simp) (.int .i64 0)).setCell (p := ⟨w.heap.size, 1, none⟩) (by simp) (.int .u8 0)).setCell (p := ⟨w.heap.size, 2, none⟩) (by simp) (.bool false)).setCell (p := ⟨w.heap.size, 3, none⟩) (by simp) (.slice none 0 0)
        clear HG hb
        go_wp2_with fail
        refine bodyPost_ret (v := .tuple #[.agg #[.int .i64 0, .int .u8 0, .bool false, .slice none 0 0], .int .i64 0]) (by simp [results, Tryd.results38, go_sem, q0, q1, q2, q3, g0, g1, g2, g3]) rfl ?_
        exact ⟨hbF, .inl ⟨HF.out, rfl⟩⟩
end Go.Proofs.YthnmdhcgnimdfaaDoor
