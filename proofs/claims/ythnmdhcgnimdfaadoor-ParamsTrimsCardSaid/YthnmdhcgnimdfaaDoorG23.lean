/- The walks of whelkref02.ends and whelkref02.Match without paths: up to a hundred thousand items and bytes. -/
import Derived.Test.YthnmdhcgnimdfaaDoorG22
set_option linter.unusedVariables false
set_option linter.unusedSimpArgs false
namespace Go.Proofs.YthnmdhcgnimdfaaDoor
open Go.RowKit
attribute [local go_sem ↓] Go.wp_at_zero Go.wp_at_succ
theorem Tryd.info4 : (Tryd.prog.info? 4).map (fun i => (i.zero, i.size, i.bytes)) = some (some (.bool false), 1, 1) := by kernel_rfl
theorem quietL {P : Program} {f : FuncId} {args : Array Value} {w : World} {n : Nat} {v : Value}
    (h : Calls P f args (w.drewN n) fun e w' => e = .returned v ∧ w.drewN n = w') : Calls P f args (w.drewN n) fun e w'' => e = .returned v ∧ ∃ m, w'' = w.drewN m :=
  h.mono fun _ _ h => ⟨h.1, n, h.2.symm⟩
theorem fits_1 {x : It} (b : UInt8) (h : x.kind = 1) : fitsB x b = (x.b == b) := by unfold fitsB; rw [if_pos h]
theorem fits_2 {x : It} (b : UInt8) (h : x.kind = 2) : fitsB x b = true := by unfold fitsB; rw [if_neg (by omega), if_pos h]
theorem fits_0 {x : It} (b : UInt8) (h1 : ¬ x.kind = 1) (h2 : ¬ x.kind = 2) (h4 : ¬ x.kind = 4) : fitsB x b = false := by unfold fitsB; rw [if_neg h1, if_neg h2, if_neg h4]
/-- what an inner round needs of a world -/
structure EInv (s : ByteArray) (f : Nat → Bool) (B : Nat) (x : Array Value) (wo wr : World) : Prop where
  ow : wr.ownsRow wo.heap.size 4 1 (.slice (some ⟨wo.heap.size + 1, 0, none⟩) (s.size + 1) (s.size + 1)) (s.size + 1) (bls (rowf s.size f))
  hb : Below wo.heap.size wo wr
  kx : Bk wr wo.heap.size 76 x
theorem EInv.drewN {s : ByteArray} {f : Nat → Bool} {B : Nat} {x : Array Value} {wo wr : World} (g : EInv s f B x wo wr) (n : Nat) : EInv s f B x wo (wr.drewN n) :=
  ⟨own_below g.ow (below_drewN (Below.refl _ _) n), below_drewN g.hb n, g.kx.drewN n⟩
theorem EInv.put {s : ByteArray} {f : Nat → Bool} {B : Nat} {x : Array Value} {wo wr : World} (g : EInv s f B x wo wr) (j : Nat) (b : Bool) : EInv s (upd f j b) B x wo (wr.setCell ⟨wo.heap.size + 1, j, none⟩ (.bool b)) :=
  ⟨own_upd g.ow j b, g.hb.setCell (by simp) _, g.kx.far (by simp) _⟩
def TabPost (p : List It) (s : ByteArray) (w : World) (e : Ending) (w' : World) : Prop :=
  ∃ g c, e = .returned (.slice (some ⟨g, 0, none⟩) (s.size + 1) c) ∧ w'.ownsRow w.heap.size 4 1 (.slice (some ⟨g, 0, none⟩) (s.size + 1) c) (s.size + 1) (bls (rowf s.size (tabF p s.data.toList p.length))) ∧ Below w.heap.size w w'
set_option maxRecDepth 100000 in
set_option maxHeartbeats 4000000 in
theorem refends_any (v : Value) (p : List It) (s : ByteArray) (w : World) (h : RdI w v p) (hp : p.length ≤ 100000) (hs : s.size ≤ 100000) (hr : ∀ x ∈ p, x.rs.length ≤ 1000000) :
    Calls Tryd.prog 39 #[v, .string s, .bool false] w (TabPost p s w) := by
  obtain ⟨ps, hps, hrd, hrg⟩ := h
  have hpl : ps.length = p.length := by rw [← hps, List.length_map]
  obtain ⟨A, cap, rfl, hcap, hx⟩ := hrd.open_
  rw [hpl] at hcap
  rw [hpl]
  have HPS := hid hps
  have HPL := hid hpl
  have HRG := hid hrg
  have HRR := hid hr
  clear hrd hps hpl hrg hr
  obtain ⟨S, hS⟩ : ∃ S, S = s.data.toList := ⟨_, rfl⟩
  have hSl : S.length = s.size := by rw [hS]; simp
  have HS := hid hS
  have HSL := hid hSl
  clear hS hSl
  obtain ⟨i0, hi0, hz0, hz1, hz2⟩ := info_parts Tryd.info4
  go_enter Tryd.func39, Tryd.ntmps39
  go_wp2_with (at_make; refine wpList_make_full _ rfl _ _ 79 rfl w.heap.size 4 i0 _ 1 Tryd.underlying79 hi0 hz0 hz1 .i64 .i64 ((s.size : Int) + 1) ((s.size : Int) + 1) (s.size + 1) rfl rfl (by omega) (by omega) (by rw [hz2]; omega) (by unfold maxLen; omega) (by omega) ?_; intro w1 hown hgrow; rw [made_false s.size _ rfl] at hown; have c0 := own_bit hown 0 (by omega); have f0 := hown.frozenAt 0)
  have hb1 : Below w.heap.size w w1 := (Below.refl _ _).grown hgrow (Nat.le_refl _) (by simp)
  have HO := hid (own_upd hown 0 true)
  clear c0 f0 hown hgrow
  go_loopw [7, 8] (fun va vk wr => ∃ (k g c : Nat), k ≤ p.length ∧ vk = .int .i64 k ∧ va = .slice (some ⟨g, 0, none⟩) (s.size + 1) c ∧ Hid (wr.ownsRow w.heap.size 4 1 (.slice (some ⟨g, 0, none⟩) (s.size + 1) c) (s.size + 1) (bls (rowf s.size (tabF p S k)))) ∧ Below w.heap.size w wr) (fun _ vk _ => p.length - (intOf vk).toNat)
  case atStart =>
    refine ⟨0, w.heap.size, s.size + 1, by omega, rfl, rfl, hid ?_, hb1.setCell (Nat.le_refl _) _⟩
    have := HO.out
    rwa [rowf_congr s.size _ (tabF p S 0) (fun i hi => by rw [tab_first p S i (by rw [HSL.out]; exact hi)]; by_cases h : i = 0 <;> simp [upd, h])] at this
  case round =>
    clear HO hb1
    obtain ⟨k, ga, ca, hk, rfl, rfl, HA, hb⟩ := hrel
    by_cases hlt : k < p.length
    · have hkp : k < ps.length := by rw [HPL.out]; exact hlt
      rcases hx with hx | ⟨g, off, rfl, hat⟩
      · exact (itc_ne hkp hx).elim
      have hat1 := (show At w g off (itc ps) from hat).below hb
      obtain ⟨m0, m1, m2, m3⟩ := itc_at ps k hkp
      have c0 : wr.cell? ⟨g, off + k * 4, none⟩ = some (.int .i64 ps[k].1.kind) := hat1 _ _ m0
      have c1 : wr.cell? ⟨g, off + k * 4 + 1, none⟩ = some (.int .u8 (ps[k].1.b.toNat : Int)) := hat1 _ _ m1
      have c2 : wr.cell? ⟨g, off + k * 4 + 2, none⟩ = some (.bool ps[k].1.neg) := hat1 _ _ m2
      have c3 : wr.cell? ⟨g, off + k * 4 + 3, none⟩ = some ps[k].2 := hat1 _ _ m3
      have HPK : Hid (ps[k].1 = p[k]) := hid (by
        have := HPS.out
        subst this
        rw [List.getElem_map])
      have HUR := hid (HRG.out ps[k] (List.getElem_mem hkp))
      have HUL : Hid (ps[k].1.rs.length ≤ 1000000) := hid (by rw [HPK.out]; exact HRR.out _ (List.getElem_mem hlt))
      clear m0 m1 m2 m3 hat1
      generalize ps[k] = pk at *
      obtain ⟨⟨kd, xb, xn, xr⟩, u⟩ := pk
      dsimp only at c0 c1 c2 c3 HPK HUR HUL
      obtain ⟨uA, ucap, hu, _, _⟩ := HUR.out.open_
      subst hu
      have hsz := hb.size
      have HUR := hid (HUR.out.below hb)
      obtain ⟨st, hst⟩ : ∃ st : Bool, (kd == 3) = st := ⟨_, rfl⟩
      have HST : Hid (isStar p[k] = st) := hid (by rw [← HPK.out, ← hst]; rfl)
      obtain ⟨wo, rfl⟩ : ∃ wo : World, wo = wr := ⟨_, rfl⟩
      go_wp2_with (at_make; refine wpList_make_full _ rfl _ _ 79 rfl wo.heap.size 4 i0 _ 1 Tryd.underlying79 hi0 hz0 hz1 .i64 .i64 ((s.size : Int) + 1) ((s.size : Int) + 1) (s.size + 1) rfl rfl (by omega) (by omega) (by rw [hz2]; omega) (by unfold maxLen; omega) (by simp) ?_; intro w2 hown hgrow; rw [made_false s.size _ rfl, show (wo.alloc (.cells #[.int .i64 kd, .int .u8 (xb.toNat : Int), .bool xn, .slice uA xr.length ucap] 76)).heap.size = wo.heap.size + 1 by simp] at hown; have HO := hid hown; have HGR := hid hgrow; clear hown hgrow)
      have HB2 : Hid (Below wo.heap.size wo w2 ∧ Bk w2 wo.heap.size 76 #[.int .i64 kd, .int .u8 (xb.toNat : Int), .bool xn, .slice uA xr.length ucap]) := hid ⟨((Below.refl _ _).alloc (Nat.le_refl _) _).grown HGR.out (by simp) (by simp), (Bk.new wo 76 _).grown HGR.out (by simp)⟩
      clear c0 c1 c2 c3 HGR
      go_loopw [11] (fun vi wi => ∃ (i : Nat) (f : Nat → Bool), i ≤ s.size + 1 ∧ vi = .int .i64 i ∧ Hid (∀ j, j ≤ s.size → f j = midF p S k i st j) ∧ Hid (wi.ownsRow wo.heap.size 4 1 (.slice (some ⟨wo.heap.size + 1, 0, none⟩) (s.size + 1) (s.size + 1)) (s.size + 1) (bls (rowf s.size f))) ∧
        Hid (Below wo.heap.size wo wi ∧ Bk wi wo.heap.size 76 #[.int .i64 kd, .int .u8 (xb.toNat : Int), .bool xn, .slice uA xr.length ucap])) (fun vi _ => s.size + 1 - (intOf vi).toNat)
      case atStart => exact ⟨0, _, by omega, rfl, hid (fun j hj => (midF_start p S k hlt st HST.out j).symm), HO, HB2⟩
      case round =>
        clear HO HB2
        obtain ⟨i, f, hi, rfl, HF, HO, HB⟩ := hrel
        by_cases hin : i ≤ s.size
        · have hAr := own_below HA.out HB.out.1
          have hca := own_bit hAr i hin
          have hcn := own_bit HO.out i hin
          have hfn := HO.out.frozenAt i
          have hfn1 := HO.out.frozenAt (i + 1)
          obtain ⟨x0, x1, x2, x3⟩ := HB.out.2.cells4
          have hi0 : (0 : Int) ≤ (i : Int) := Int.natCast_nonneg _
          clear hAr
          cases st
          · have HE : Hid (EInv s f 0 #[.int .i64 kd, .int .u8 (xb.toNat : Int), .bool xn, .slice uA xr.length ucap] wo wr) := hid ⟨HO.out, HB.out.1, HB.out.2⟩
            by_cases hlt2 : i < s.size
            · have hSi : i < S.length := by rw [HSL.out]; exact hlt2
              have HSI : Hid (S[i] = s[i]) := hid (by have := HS.out; subst this; rw [Array.getElem_toList]; rfl)
              cases hy : tabF p S k i
              · have HMF : Hid (∀ j, j ≤ s.size → f j = midF p S k (i + 1) false j) := hid (fun j hj => by
                  have := mid_plain p S k hlt HST.out i f false (by simp [hy]) (by rw [HSL.out]; exact HF.out) j (by rw [HSL.out]; exact hj)
                  rwa [if_neg (by decide)] at this)
                rw [hy] at hca
                clear hy
                go_wp2_with fail
                go_roundw
                case rel => exact ⟨i + 1, _, by omega, by go_num, HMF, hid (HE.out.ow), hid ⟨HE.out.hb, HE.out.kx⟩⟩
                case measure => simp [intOf]; omega
              · have HMT : Hid (fitsB p[k] s[i] = true → ∀ j, j ≤ s.size → upd f (i + 1) true j = midF p S k (i + 1) false j) := hid (fun hf j hj => by
                  have := mid_plain p S k hlt HST.out i f true (by simp [hy, hSi, HSI.out, hf]) (by rw [HSL.out]; exact HF.out) j (by rw [HSL.out]; exact hj)
                  rwa [if_pos rfl] at this)
                have HMN : Hid (fitsB p[k] s[i] = false → ∀ j, j ≤ s.size → f j = midF p S k (i + 1) false j) := hid (fun hf j hj => by
                  have := mid_plain p S k hlt HST.out i f false (by simp [hy, HSI.out, hf]) (by rw [HSL.out]; exact HF.out) j (by rw [HSL.out]; exact hj)
                  rwa [if_neg (by decide)] at this)
                rw [hy] at hca
                have HC : Hid (fitsB p[k] s[i] = fitsB ⟨kd, xb, xn, xr⟩ s[i]) := hid (by rw [← HPK.out])
                have hi1 : (i : Int) < (s.size : Int) := by omega
                clear hy
                have hu8 := u8_eq xb s[i]
                go_upto_region 16 with fail
                go_cut [98] (fun sv wx => ∃ b1 : Bool, sv = .bool b1 ∧ Hid (b1 = (kd == 1 && xb == s[i])) ∧ Hid (EInv s f 0 #[.int .i64 kd, .int .u8 (xb.toNat : Int), .bool xn, .slice uA xr.length ucap] wo wx))
                case first =>
                  by_cases h1 : kd = 1
                  · have h1d : (kd == 1) = true := by simpa using h1
                    clear h1
                    go_quiet (fail)
                    go_wp2_with fail
                    go_meet
                    exact ⟨_, rfl, hid (by rw [h1d]; rfl), hid (HE.out.drewN nq)⟩
                  · have h1d : (kd == 1) = false := by simpa using h1
                    clear h1
                    go_quiet (fail)
                    go_wp2_with fail
                    go_meet
                    exact ⟨_, rfl, hid (by rw [h1d]; rfl), hid (HE.out.drewN nq)⟩
                case rest =>
                  clear hca hcn hfn hfn1 x0 x1 x2 x3 HE HO HB
                  obtain ⟨b1, rfl, HB1, HE⟩ := hcut
                  have hcn1 := own_bit HE.out.ow (i + 1) (by omega)
                  have hfn1 := HE.out.ow.frozenAt (i + 1)
                  obtain ⟨x0, x1, x2, x3⟩ := HE.out.kx.cells4
                  by_cases h1 : kd = 1
                  · subst h1
                    have HFT := hid (fits_1 (x := ⟨1, xb, xn, xr⟩) s[i] rfl)
                    cases hxb : (xb == s[i])
                    · have HM2 := hid (HMN.out (by rw [HC.out, HFT.out]; exact hxb))
                      obtain rfl : b1 = false := by rw [HB1.out, hxb]; rfl
                      clear HB1 HFT hxb hu8
                      go_wp2_with fail
                      go_quiet (fail)
                      go_wp2_with fail
                      go_roundw
                      case rel => exact ⟨i + 1, _, by omega, by go_num, HM2, hid (HE.out.drewN nq).ow, hid ⟨(HE.out.drewN nq).hb, (HE.out.drewN nq).kx⟩⟩
                      case measure => simp [intOf]; omega
                    · have HM2 := hid (HMT.out (by rw [HC.out, HFT.out]; exact hxb))
                      obtain rfl : b1 = true := by rw [HB1.out, hxb]; rfl
                      clear HB1 HFT hxb hu8
                      go_wp2_with fail
                      go_quiet (fail)
                      go_wp2_with fail
                      go_roundw
                      case rel => exact ⟨i + 1, _, by omega, by go_num, HM2, hid ((HE.out.put (i + 1) true).drewN nq).ow, hid ⟨((HE.out.put (i + 1) true).drewN nq).hb, ((HE.out.put (i + 1) true).drewN nq).kx⟩⟩
                      case measure => simp [intOf]; omega
                  · have h1d : (kd == 1) = false := by simpa using h1
                    obtain rfl : b1 = false := by rw [HB1.out, h1d]; rfl
                    clear HB1 h1d
                    by_cases h2 : kd = 2
                    · have HM2 := hid (HMT.out (by rw [HC.out]; exact fits_2 _ h2))
                      have h2d : (kd == 2) = true := by simpa using h2
                      clear h1 h2
                      go_wp2_with fail
                      go_quiet (fail)
                      go_wp2_with fail
                      go_roundw
                      case rel => exact ⟨i + 1, _, by omega, by go_num, HM2, hid ((HE.out.put (i + 1) true).drewN nq).ow, hid ⟨((HE.out.put (i + 1) true).drewN nq).hb, ((HE.out.put (i + 1) true).drewN nq).kx⟩⟩
                      case measure => simp [intOf]; omega
                    · have h2d : (kd == 2) = false := by simpa using h2
                      by_cases h4 : kd = 4
                      · have HFT := hid (fits_4 (x := ⟨kd, xb, xn, xr⟩) s[i] h4)
                        have h4d : (kd == 4) = true := by simpa using h4
                        have HUR := hid (HUR.out.below HE.out.hb)
                        clear h1 h2 h4
                        have HCALL : Hid (∀ n, Calls Tryd.prog 61 #[.slice uA xr.length ucap, .int .u8 (s[i].toNat : Int)] (wc.drewN n) fun e w'' => e = .returned (.bool (inR xr s[i])) ∧ ∃ m, w'' = wc.drewN m) := hid (fun n => quietL (refin_any _ xr s[i] _ ((HUR.out).below (below_drewN (Below.refl _ _) n)) HUL.out))
                        cases hin : inR xr s[i] != xn
                        · have HM2 := hid (HMN.out (by rw [HC.out, HFT.out]; exact hin))
                          generalize inR xr s[i] = bi at *
                          cases bi <;> cases xn <;> (try (exact absurd hin (by decide)))
                          all_goals
                            clear hin
                            go_wp2_with fail
                            go_quiet ((go_at_call 61; exact HCALL.out _))
                            go_wp2_with fail
                            go_roundw
                            case rel => exact ⟨i + 1, _, by omega, by go_num, HM2, hid (HE.out.drewN nq).ow, hid ⟨(HE.out.drewN nq).hb, (HE.out.drewN nq).kx⟩⟩
                            case measure => simp [intOf]; omega
                        · have HM2 := hid (HMT.out (by rw [HC.out, HFT.out]; exact hin))
                          generalize inR xr s[i] = bi at *
                          cases bi <;> cases xn <;> (try (exact absurd hin (by decide)))
                          all_goals
                            clear hin
                            go_wp2_with fail
                            go_quiet ((go_at_call 61; exact HCALL.out _))
                            go_wp2_with fail
                            go_roundw
                            case rel => exact ⟨i + 1, _, by omega, by go_num, HM2, hid ((HE.out.put (i + 1) true).drewN nq).ow, hid ⟨((HE.out.put (i + 1) true).drewN nq).hb, ((HE.out.put (i + 1) true).drewN nq).kx⟩⟩
                            case measure => simp [intOf]; omega
                      · have HM2 := hid (HMN.out (by rw [HC.out]; exact fits_0 _ h1 h2 h4))
                        have h4d : (kd == 4) = false := by simpa using h4
                        clear h1 h2 h4
                        go_wp2_with fail
                        go_quiet (fail)
                        go_wp2_with fail
                        go_roundw
                        case rel => exact ⟨i + 1, _, by omega, by go_num, HM2, hid (HE.out.drewN nq).ow, hid ⟨(HE.out.drewN nq).hb, (HE.out.drewN nq).kx⟩⟩
                        case measure => simp [intOf]; omega
            · obtain rfl : i = s.size := by omega
              have HMF : Hid (∀ j, j ≤ s.size → f j = midF p S k (s.size + 1) false j) := hid (fun j hj => by
                have := mid_plain p S k hlt HST.out s.size f false (by constructor; (intro h; cases h); (rintro ⟨h, _⟩; rw [HSL.out] at h; omega)) (by rw [HSL.out]; exact HF.out) j (by rw [HSL.out]; exact hj)
                rwa [if_neg (by decide)] at this)
              go_wp2_with fail
              go_roundw
              case rel => exact ⟨s.size + 1, _, by omega, by go_num, HMF, hid (HE.out.ow), hid ⟨HE.out.hb, HE.out.kx⟩⟩
              case measure => first | (simp [intOf]; done) | (simp [intOf]; omega)
          · have HZ : Hid (tabF p S (k + 1) i = (f i || tabF p S k i)) := hid (by rw [HF.out i hin]; exact midF_star p S k hlt HST.out i (by rw [HSL.out]; exact hin))
            have HM := hid (mid_star p S k i f s.size HF.out)
            generalize hz : tabF p S (k + 1) i = z at *
            have HO1 := hid (own_upd HO.out i z)
            have HO2 := hid (own_upd HO1.out (i + 1) true)
            have HB1 : Hid (Below wo.heap.size wo (wr.setCell ⟨wo.heap.size + 1, i, none⟩ (.bool z)) ∧ Bk (wr.setCell ⟨wo.heap.size + 1, i, none⟩ (.bool z)) wo.heap.size 76 #[.int .i64 kd, .int .u8 (xb.toNat : Int), .bool xn, .slice uA xr.length ucap]) := hid ⟨HB.out.1.setCell (by simp) _, HB.out.2.far (by simp) _⟩
            have HB2 : Hid (Below wo.heap.size wo ((wr.setCell ⟨wo.heap.size + 1, i, none⟩ (.bool z)).setCell ⟨wo.heap.size + 1, i + 1, none⟩ (.bool true)) ∧ Bk ((wr.setCell ⟨wo.heap.size + 1, i, none⟩ (.bool z)).setCell ⟨wo.heap.size + 1, i + 1, none⟩ (.bool true)) wo.heap.size 76 #[.int .i64 kd, .int .u8 (xb.toNat : Int), .bool xn, .slice uA xr.length ucap]) := hid ⟨HB1.out.1.setCell (by simp) _, HB1.out.2.far (by simp) _⟩
            clear hz
            by_cases hlt2 : i < s.size
            · have hcn1 := own_bit HO.out (i + 1) (by omega)
              generalize f (i + 1) = y1 at hcn1
              generalize f i = x at *
              generalize tabF p S k i = y at *
              have HZ' := HZ.out
              cases x <;> cases y <;> (simp at HZ'; subst HZ')
              · have HMF : Hid (∀ j, j ≤ s.size → upd f i false j = midF p S k (i + 1) true j) := hid (fun j hj => by have := HM.out j hj; rwa [if_neg (by simp)] at this)
                clear HM HZ
                go_wp2_with fail
                go_roundw
                case rel => exact ⟨i + 1, _, by omega, by go_num, HMF, HO1, HB1⟩
                case measure => simp [intOf]; omega
              all_goals
                have HMF : Hid (∀ j, j ≤ s.size → upd (upd f i true) (i + 1) true j = midF p S k (i + 1) true j) := hid (fun j hj => by have := HM.out j hj; rwa [if_pos ⟨hlt2, rfl⟩] at this)
                clear HM HZ
                go_wp2_with fail
                go_roundw
                case rel => exact ⟨i + 1, _, by omega, by go_num, HMF, HO2, HB2⟩
                case measure => simp [intOf]; omega
            · have HMF : Hid (∀ j, j ≤ s.size → upd f i z j = midF p S k (i + 1) true j) := hid (fun j hj => by have := HM.out j hj; rwa [if_neg (by omega)] at this)
              clear HM HB2 HO2
              generalize f i = x at *
              generalize tabF p S k i = y at *
              have HZ' := HZ.out
              clear HZ
              cases x <;> cases y <;> (simp at HZ'; subst HZ')
              all_goals
                go_wp2_with fail
                go_roundw
                case rel => exact ⟨i + 1, _, by omega, by go_num, HMF, HO1, HB1⟩
                case measure => simp [intOf]; omega
        · obtain rfl : i = s.size + 1 := by omega
          have HA2 : Hid (wr.ownsRow w.heap.size 4 1 (.slice (some ⟨wo.heap.size + 1, 0, none⟩) (s.size + 1) (s.size + 1)) (s.size + 1) (bls (rowf s.size (tabF p S (k + 1))))) := hid (by
            have := own_low HO.out hsz
            rwa [rowf_congr s.size f (tabF p S (k + 1)) (fun j hj => by rw [HF.out j hj, midF_end p S k s.size st j hj])] at this)
          have hbF := hb.trans (HB.out.1.mono hsz)
          have hnl : ¬ ((s.size : Int) + 1 ≤ (s.size : Int)) := by omega
          go_wp2_with fail
          go_roundw
          case rel => exact ⟨k + 1, _, _, by omega, by go_num, rfl, HA2, hbF⟩
          case measure => simp [intOf]; omega
    · obtain rfl : k = p.length := by omega
      clear hx
      go_wp2_with fail
      go_ret
      exact ⟨ga, ca, rfl, by rw [← HS.out]; exact HA.out, hb⟩
end Go.Proofs.YthnmdhcgnimdfaaDoor
