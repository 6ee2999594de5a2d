/- The walk of the parser's choice, wherever two holds here, and whole and choice further on. -/
import Derived.Test.YtadmmmehphhecaaGreatDoorW
set_option linter.unusedVariables false
set_option linter.unusedSimpArgs false
namespace Go.Proofs.YtadmmmehphhecaaGreatDoor
open Go.RowKit
def PFunT (s : ByteArray) (g : Nat) (row : Nat) (d : Nat) (t : PSt) : Prop :=
  ∀ (w : World) (di ri : Int), di = (d : Int) → ri = (row : Int) → Laid w → PIn TP w g s t → Calls Tryz.prog 92 #[.pointer (some ⟨g, 0, none⟩), .int .i64 di, .int .i64 ri] w (PPost s g (.two row) d t w)
theorem PFunT.call {s : ByteArray} {g row : Nat} {d : Nat} {t : PSt} (h : PFunT s g row d t) (w : World) (di ri : Int) (hd : di = (d : Int)) (hr : ri = (row : Int)) (hL : Laid w) (hp : PIn TP w g s t) :
    Calls Tryz.prog 92 #[.pointer (some ⟨g, 0, none⟩), .int .i64 di, .int .i64 ri] w (PPost s g (.two row) d t w) := h w di ri hd hr hL hp
theorem RdL.two {w : World} {P : Nat → Prop} {x y : Ex} {N : Nat} {a0 a1 a2 a3 b0 b1 b2 b3 : Value} (hN : P N) (hk : Bk w N TE #[a0, a1, a2, a3, b0, b1, b2, b3]) (hx : RdX w P x (.agg #[a0, a1, a2, a3])) (hy : RdX w P y (.agg #[b0, b1, b2, b3])) : RdL w P (.cons x (.cons y .nil)) (some ⟨N, 0, none⟩) := by
  unfold RdL
  refine ⟨N, 0, a0, a1, a2, a3, rfl, hN, hk.cell 0 _ rfl, hk.cell 1 _ rfl, hk.cell 2 _ rfl, hk.cell 3 _ rfl, hx, ?_⟩
  unfold RdL
  exact ⟨N, 4, b0, b1, b2, b3, rfl, hN, hk.cell 4 _ rfl, hk.cell 5 _ rfl, hk.cell 6 _ rfl, hk.cell 7 _ rfl, hy, by unfold RdL; trivial⟩
theorem RdL.three {w : World} {P : Nat → Prop} {x y z : Ex} {N : Nat} {a0 a1 a2 a3 b0 b1 b2 b3 c0 c1 c2 c3 : Value} (hN : P N) (hk : Bk w N TE #[a0, a1, a2, a3, b0, b1, b2, b3, c0, c1, c2, c3]) (hx : RdX w P x (.agg #[a0, a1, a2, a3])) (hy : RdX w P y (.agg #[b0, b1, b2, b3]))
    (hz : RdX w P z (.agg #[c0, c1, c2, c3])) : RdL w P (.cons x (.cons y (.cons z .nil))) (some ⟨N, 0, none⟩) := by
  unfold RdL
  refine ⟨N, 0, a0, a1, a2, a3, rfl, hN, hk.cell 0 _ rfl, hk.cell 1 _ rfl, hk.cell 2 _ rfl, hk.cell 3 _ rfl, hx, ?_⟩
  unfold RdL
  refine ⟨N, 4, b0, b1, b2, b3, rfl, hN, hk.cell 4 _ rfl, hk.cell 5 _ rfl, hk.cell 6 _ rfl, hk.cell 7 _ rfl, hy, ?_⟩
  unfold RdL
  exact ⟨N, 8, c0, c1, c2, c3, rfl, hN, hk.cell 8 _ rfl, hk.cell 9 _ rfl, hk.cell 10 _ rfl, hk.cell 11 _ rfl, hz, by unfold RdL; trivial⟩
set_option maxRecDepth 100000 in
set_option maxHeartbeats 4000000 in
theorem choice_step (s : ByteArray) (g : Nat) (d : Nat) (t : PSt) (hs : s.size ≤ 100000) (hgb : GBig g) (hat : t.at_ + t.text.length ≤ s.size) (hd : d ≤ 40) (hkd : t.kd ≤ 2)
    (hT : PFunT s g 0 d t) (hW : d < 40 → ∀ t', t.at_ < t'.at_ → t'.at_ + t'.text.length ≤ s.size → t'.kd ≤ 2 → PFun 41 s g .whole (d + 1) t') (hC : d < 40 → ∀ t', t.at_ < t'.at_ → t'.at_ + t'.text.length ≤ s.size → t'.kd ≤ 2 → PFun 76 s g .choice (d + 1) t') :
    PFun 76 s g .choice d t := by
  intro w di hdi hL hp
  subst hdi
  have HGB := hid hgb
  have HL := hid hL
  have HP := hid hp
  have hg := hp.lt
  have HWW := hid hW
  have HCC := hid hC
  have HTT := hid hT
  clear hgb hL hW hC hT hp
  go_enter Tryz.func76, Tryz.ntmps76
  go_wp2_with fail
  ((with_reducible refine (HTT.out.call _ _ 0 rfl rfl (HL.out.below ((Below.refl _ _).alloc (Nat.le_refl _) _)) (HP.out.alloc _)).mono ?_); rintro e w6 ⟨r, hout, hg6, hres⟩)
  have HG6 := hid (grownBy_trans (grown_alloc w (some g) (.cells #[.string ⟨#[]⟩, .int .i64 0, .string ⟨#[]⟩, .slice none 0 0] TE)) hg6)
  have k0 := (Bk.new w TE #[.string ⟨#[]⟩, .int .i64 0, .string ⟨#[]⟩, .slice none 0 0]).grown hg6 (by intro e; injection e with e; omega)
  have hsz6 : w.heap.size < w6.heap.size := k0.lt
  cases r with
  | error x =>
    obtain ⟨a, er⟩ := x
    dsimp only at hres
    subst hres
    exact ⟨rfl, PPost.bad (choice_err (s := s.data.toList) hout) HG6.out rfl⟩
  | ok q =>
    obtain ⟨x, t1⟩ := q
    obtain ⟨⟨v, rfl, hx⟩, hp6, hm1, hm2, hm3⟩ := hres
    obtain ⟨A, cap, rfl, hcap, hkids⟩ := hx.form
    have hk7 := k0.alloc (.cells #[.string ⟨x.op.toArray⟩, .int .i64 x.num, .string ⟨x.name.toArray⟩, .slice A x.kids.len cap] TE)
    have kX := Bk.new w6 TE #[.string ⟨x.op.toArray⟩, .int .i64 x.num, .string ⟨x.name.toArray⟩, .slice A x.kids.len cap]
    have hp7 := hp6.alloc (.cells #[.string ⟨x.op.toArray⟩, .int .i64 x.num, .string ⟨x.name.toArray⟩, .slice A x.kids.len cap] TE)
    have hx7 := hx.alloc (.cells #[.string ⟨x.op.toArray⟩, .int .i64 x.num, .string ⟨x.name.toArray⟩, .slice A x.kids.len cap] TE)
    have HG7 := hid (grownBy_trans HG6.out (grown_alloc _ _ (.cells #[.string ⟨x.op.toArray⟩, .int .i64 x.num, .string ⟨x.name.toArray⟩, .slice A x.kids.len cap] TE)))
    have HL7 := hid (((HL.out.below ((Below.refl _ _).alloc (Nat.le_refl _) _)).grown hg6 HGB.out).below ((Below.refl _ _).alloc (Nat.le_refl _) (.cells #[.string ⟨x.op.toArray⟩, .int .i64 x.num, .string ⟨x.name.toArray⟩, .slice A x.kids.len cap] TE)))
    have hsz7 : w6.heap.size < (w6.alloc (.cells #[.string ⟨x.op.toArray⟩, .int .i64 x.num, .string ⟨x.name.toArray⟩, .slice A x.kids.len cap] TE)).heap.size := by simp
    have HOUT := hid hout
    obtain ⟨nm1, hkp, _⟩ := (show PIn TP _ g s t1 from hp7)
    go_upto_region 2 with fail
    obtain ⟨X, hX⟩ : ∃ X, X = w6.heap.size := ⟨_, rfl⟩
    rw [← hX] at kX hsz7 ⊢
    have hXw : w.heap.size < X := by omega
    generalize w6.alloc (.cells #[.string ⟨x.op.toArray⟩, .int .i64 x.num, .string ⟨x.name.toArray⟩, .slice A x.kids.len cap] TE) = w7 at *
    have HPP := hid hp7
    have HXX := hid (hx7.low (Q := fun b => w.heap.size < b) (fun b hb => by simp at hb; omega))
    have HK0 := hid hk7
    have HKX := hid kX
    clear hx hx7 hp6 hp7 hg6 hout hkids hX k0 hk7 kX
    obtain ⟨c0, c1, c2, c3, c4⟩ := hkp.cells5
    by_cases hq : t1.kd = 0 ∧ t1.text = [63]
    · obtain ⟨hz, htx⟩ := hq
      rw [hz, show kindS 0 = [] from rfl] at c4
      rw [htx] at c2
      have HQ := hid (show t1.kd = 0 ∧ t1.text = [63] from ⟨hz, htx⟩)
      have HTL : Hid (t1.text.length = 1) := hid (by rw [htx]; rfl)
      clear hz htx hkp
      by_cases hd40 : d = 40
      · have HO1 := hid (choice_deep (s := s.data.toList) HOUT.out HQ.out hd40)
        subst hd40
        rw [show ((40 : Nat) : Int) = 40 from rfl]
        go_wp2_with fail
        ((with_reducible refine (deeper_no g _ t1.at_ c1).mono ?_); rintro e w9 ⟨rfl, rfl⟩)
        exact ⟨rfl, PPost.bad HO1.out HG7.out rfl⟩
      have hdl : (d : Int) < 40 := by omega
      have hd0 : (0 : Int) ≤ (d : Int) := by omega
      have HD1 : Hid ((d : Int) + 1 = ((d + 1 : Nat) : Int)) := hid (by omega)
      go_wp2_with fail
      ((with_reducible refine (deeper_yes g d _ hd0 hdl).mono ?_); rintro e w9 ⟨rfl, rfl⟩)
      go_wp2_with fail
      ((with_reducible refine (next_any s g t1 _ HL7.out hs HGB.out HPP.out hm2).mono ?_); rintro e w8 ⟨hg8, hres⟩)
      have HG8 := hid (grownBy_trans HG7.out hg8)
      cases hn : nextF s.data.toList t1 with
      | error u =>
        obtain ⟨a, er⟩ := u
        rw [hn] at hres
        dsimp only at hres
        subst hres
        exact ⟨rfl, PPost.bad (choice_next (s := s.data.toList) HOUT.out HQ.out hd40 hn) HG8.out rfl⟩
      | ok t2 =>
        rw [hn] at hres
        obtain ⟨rfl, hp8⟩ := hres
        have hl2 := next_le _ _ _ hn (by simpa using hm2)
        obtain ⟨hn1, hn2, hn3⟩ := hl2
        have hn2 : t2.at_ + t2.text.length ≤ s.size := by simpa using hn2
        have hstr : t.at_ < t2.at_ := by have := HTL.out; omega
        have HL8 := hid (HL7.out.grown hg8 HGB.out)
        have hkX8 := HKX.out.grown hg8 (by intro e; injection e with e; omega)
        have hk08 := HK0.out.grown hg8 (by intro e; injection e with e; omega)
        have HX8 := hid (HXX.out.grownP (fun b hb => by omega) hg8)
        have HNN := hid hn
        have hX8 : X < w8.heap.size := hkX8.lt
        clear hn hg8 c0 c1 c2 c3 c4
        go_wp2_with fail
        ((with_reducible refine ((HWW.out (by omega) t2 hstr hn2 hn3).call _ _ HD1.out HL8.out hp8).mono ?_); rintro e w9 ⟨r, hout, hg9, hres⟩)
        have HG9 := hid (grownBy_trans HG8.out hg9)
        cases r with
        | error u =>
          obtain ⟨a, er⟩ := u
          dsimp only at hres
          subst hres
          exact ⟨rfl, PPost.bad (choice_a (s := s.data.toList) HOUT.out HQ.out hd40 HNN.out hout) HG9.out rfl⟩
        | ok q =>
          obtain ⟨y, t3⟩ := q
          obtain ⟨⟨v, rfl, hy⟩, hp9, hr1, hr2, hr3⟩ := hres
          obtain ⟨A2, cap2, rfl, hcap2, _⟩ := hy.form
          have HOW := hid hout
          have HL9 := hid ((HL8.out.grown hg9 HGB.out).below ((Below.refl _ _).alloc (Nat.le_refl _) (.cells #[.string ⟨y.op.toArray⟩, .int .i64 y.num, .string ⟨y.name.toArray⟩, .slice A2 y.kids.len cap2] TE)))
          have HP9 := hid (hp9.alloc (.cells #[.string ⟨y.op.toArray⟩, .int .i64 y.num, .string ⟨y.name.toArray⟩, .slice A2 y.kids.len cap2] TE))
          have HX9 := hid ((HX8.out.grownP (fun b hb => by omega) hg9).alloc (.cells #[.string ⟨y.op.toArray⟩, .int .i64 y.num, .string ⟨y.name.toArray⟩, .slice A2 y.kids.len cap2] TE))
          have HY9 := hid ((hy.alloc (.cells #[.string ⟨y.op.toArray⟩, .int .i64 y.num, .string ⟨y.name.toArray⟩, .slice A2 y.kids.len cap2] TE)).low (Q := fun b => w.heap.size < b) (fun b hb => by have hb2 : w8.heap.size ≤ b := hb; omega))
          have HKX9 := hid ((hkX8.grown hg9 (by intro e; injection e with e; omega)).alloc (.cells #[.string ⟨y.op.toArray⟩, .int .i64 y.num, .string ⟨y.name.toArray⟩, .slice A2 y.kids.len cap2] TE))
          have HK09 := hid ((hk08.grown hg9 (by intro e; injection e with e; omega)).alloc (.cells #[.string ⟨y.op.toArray⟩, .int .i64 y.num, .string ⟨y.name.toArray⟩, .slice A2 y.kids.len cap2] TE))
          have HKY9 := hid (Bk.new w9 TE #[.string ⟨y.op.toArray⟩, .int .i64 y.num, .string ⟨y.name.toArray⟩, .slice A2 y.kids.len cap2])
          have HGA := hid (grownBy_trans HG9.out (grown_alloc _ _ (.cells #[.string ⟨y.op.toArray⟩, .int .i64 y.num, .string ⟨y.name.toArray⟩, .slice A2 y.kids.len cap2] TE)))
          have hsz9 : w8.heap.size ≤ w9.heap.size := hg9.size
          have hszA : w9.heap.size < (w9.alloc (.cells #[.string ⟨y.op.toArray⟩, .int .i64 y.num, .string ⟨y.name.toArray⟩, .slice A2 y.kids.len cap2] TE)).heap.size := by simp
          clear hkX8 hk08 hg9 hp9 hy hout hp8
          go_upto_region 7 with fail
          obtain ⟨Y, hY⟩ : ∃ Y, Y = w9.heap.size := ⟨_, rfl⟩
          rw [← hY] at HKY9 hszA ⊢
          have hYX : X < Y := by omega
          generalize w9.alloc (.cells #[.string ⟨y.op.toArray⟩, .int .i64 y.num, .string ⟨y.name.toArray⟩, .slice A2 y.kids.len cap2] TE) = wA at *
          clear hY
          go_wp2_with fail
          ((with_reducible refine (takes_any s g t3 [58] _ HL9.out hs HGB.out HP9.out hr2).mono ?_); rintro e wB ⟨hgB, hres⟩)
          have HGBB := hid (grownBy_trans HGA.out hgB)
          cases hy : takesF s.data.toList t3 [58] with
          | error u =>
            obtain ⟨a, er⟩ := u
            rw [hy] at hres
            dsimp only at hres
            subst hres
            exact ⟨rfl, PPost.bad (choice_takes (s := s.data.toList) HOUT.out HQ.out hd40 HNN.out HOW.out hy) HGBB.out rfl⟩
          | ok t4 =>
            rw [hy] at hres
            obtain ⟨rfl, hpB⟩ := hres
            have hy2 : nextF s.data.toList t3 = .ok t4 := by unfold takesF at hy; split at hy; exact hy; cases hy
            have hl4 := next_le _ _ _ hy2 (by simpa using hr2)
            obtain ⟨hv1, hv2, hv3⟩ := hl4
            have hv2 : t4.at_ + t4.text.length ≤ s.size := by simpa using hv2
            have hstr4 : t.at_ < t4.at_ := by omega
            have HY := hid hy
            have HLD := hid (HL9.out.grown hgB HGB.out).drew
            have HPD := hid hpB.drew
            have HXD := hid (HX9.out.grownP (fun b hb => by omega) hgB)
            have HYD := hid (HY9.out.grownP (fun b hb => by omega) hgB)
            have hkX := HKX9.out.grown hgB (by intro e; injection e with e; omega)
            have hkY := HKY9.out.grown hgB (by intro e; injection e with e; omega)
            have hk0 := HK09.out.grown hgB (by intro e; injection e with e; omega)
            have HKXD := hid hkX.drew
            have HKYD := hid hkY.drew
            have HK0D := hid hk0.drew
            have HGD := hid (grown_drew HGBB.out)
            have hYB : Y < wB.heap.size := hkY.lt
            obtain ⟨p0, p1, p2, p3⟩ := hkX.cells4
            obtain ⟨q0, q1, q2, q3⟩ := hkY.cells4
            have HXDD := hid (show RdX wB.drew (fun b => w.heap.size < b) x _ from HXD.out.below (Below.refl _ _).drew)
            have HYDD := hid (show RdX wB.drew (fun b => w.heap.size < b) y _ from HYD.out.below (Below.refl _ _).drew)
            clear hkX hkY hk0 hgB hpB hy hy2
            go_wp2_with fail
            go_region_with (go_at_call 76; refine ((HCC.out (by omega) t4 hstr4 hv2 hv3).call wB.drew _ HD1.out HLD.out HPD.out).mono ?_; rintro e w10 ⟨r, hout, hg10, hres⟩; rcases r with ⟨a, er⟩ | ⟨z, t5⟩; (dsimp only at hres; subst hres; exact ⟨rfl, PPost.bad (choice_in (s := s.data.toList) HOUT.out HQ.out hd40 HNN.out HOW.out HY.out hout) (grownBy_trans HGD.out hg10) rfl⟩); obtain ⟨⟨v2, rfl, hz⟩, hp10, hy1, hy2, hy3⟩ := hres; obtain ⟨A3, cap3, rfl, hcap3, _⟩ := hz.form; have HOU := hid hout; have hsz10 : wB.heap.size ≤ w10.heap.size := hg10.size; have hlt10 : w.heap.size < w10.heap.size := (by omega); have hne10 : ¬ w.heap.size = w10.heap.size := (by omega); have hltX : X < w10.heap.size := (by omega); have hneX : ¬ X = w10.heap.size := (by omega); have hltY : Y < w10.heap.size := (by omega); have hneY : ¬ Y = w10.heap.size := (by omega); have HG10 := hid (grownBy_trans HGD.out hg10); have HZ10 := hid hz; have HP10 := hid hp10; have HX10 := hid (HXDD.out.grownP (fun b hb => (by omega)) hg10); have HY10 := hid (HYDD.out.grownP (fun b hb => (by omega)) hg10); have kX := HKXD.out.grown hg10 (by intro e; injection e with e; omega); have kY := HKYD.out.grown hg10 (by intro e; injection e with e; omega); have k0 := HK0D.out.grown hg10 (by intro e; injection e with e; omega); have HK010 := hid k0; obtain ⟨u0, u1, u2, u3⟩ := kX.cells4; obtain ⟨v0, v1, v2, v3⟩ := kY.cells4; obtain ⟨r0, r1, r2, r3⟩ := k0.cells4; obtain ⟨g0, g1, g2, g3⟩ := k0.free4; clear hout hg10 hz hp10 kX kY k0)
            all_goals
              have HO1 : Hid (Out s.data.toList .choice d t (.ok (.mk [63] 0 [] (.cons x (.cons y (.cons z .nil))), t5))) := hid (choice_in (s := s.data.toList) HOUT.out HQ.out hd40 HNN.out HOW.out HY.out HOU.out)
              have kF := (HK010.out.put4 (.string ⟨#[63]⟩) (.int .i64 0) (.string ⟨#[]⟩) (.slice (some ⟨w10.heap.size, 0, none⟩) 3 3)).alloc (.cells #[.string ⟨x.op.toArray⟩, .int .i64 x.num, .string ⟨x.name.toArray⟩, .slice A x.kids.len cap, .string ⟨y.op.toArray⟩, .int .i64 y.num, .string ⟨y.name.toArray⟩, .slice A2 y.kids.len cap2, .string ⟨z.op.toArray⟩, .int .i64 z.num, .string ⟨z.name.toArray⟩, .slice A3 z.kids.len cap3] TE)
              have kN : Bk (((((w10.setCell ⟨w.heap.size, 0, none⟩ (.string ⟨#[63]⟩)).setCell ⟨w.heap.size, 1, none⟩ (.int .i64 0)).setCell ⟨w.heap.size, 2, none⟩ (.string ⟨#[]⟩)).setCell ⟨w.heap.size, 3, none⟩ (.slice (some ⟨w10.heap.size, 0, none⟩) 3 3)).alloc (.cells #[.string ⟨x.op.toArray⟩, .int .i64 x.num, .string ⟨x.name.toArray⟩, .slice A x.kids.len cap, .string ⟨y.op.toArray⟩, .int .i64 y.num, .string ⟨y.name.toArray⟩, .slice A2 y.kids.len cap2, .string ⟨z.op.toArray⟩, .int .i64 z.num, .string ⟨z.name.toArray⟩, .slice A3 z.kids.len cap3] TE)) w10.heap.size TE #[.string ⟨x.op.toArray⟩, .int .i64 x.num, .string ⟨x.name.toArray⟩, .slice A x.kids.len cap, .string ⟨y.op.toArray⟩, .int .i64 y.num, .string ⟨y.name.toArray⟩, .slice A2 y.kids.len cap2, .string ⟨z.op.toArray⟩, .int .i64 z.num, .string ⟨z.name.toArray⟩, .slice A3 z.kids.len cap3] := by
                have := Bk.new ((((w10.setCell ⟨w.heap.size, 0, none⟩ (.string ⟨#[63]⟩)).setCell ⟨w.heap.size, 1, none⟩ (.int .i64 0)).setCell ⟨w.heap.size, 2, none⟩ (.string ⟨#[]⟩)).setCell ⟨w.heap.size, 3, none⟩ (.slice (some ⟨w10.heap.size, 0, none⟩) 3 3)) TE #[.string ⟨x.op.toArray⟩, .int .i64 x.num, .string ⟨x.name.toArray⟩, .slice A x.kids.len cap, .string ⟨y.op.toArray⟩, .int .i64 y.num, .string ⟨y.name.toArray⟩, .slice A2 y.kids.len cap2, .string ⟨z.op.toArray⟩, .int .i64 z.num, .string ⟨z.name.toArray⟩, .slice A3 z.kids.len cap3]
                simpa [World.setCell] using this
              have hzF := (put4_rd (b := w.heap.size) (.string ⟨#[63]⟩) (.int .i64 0) (.string ⟨#[]⟩) (.slice (some ⟨w10.heap.size, 0, none⟩) 3 3) HZ10.out (fun b hb => by have hb2 : wB.heap.size ≤ b := hb; omega)).alloc (.cells #[.string ⟨x.op.toArray⟩, .int .i64 x.num, .string ⟨x.name.toArray⟩, .slice A x.kids.len cap, .string ⟨y.op.toArray⟩, .int .i64 y.num, .string ⟨y.name.toArray⟩, .slice A2 y.kids.len cap2, .string ⟨z.op.toArray⟩, .int .i64 z.num, .string ⟨z.name.toArray⟩, .slice A3 z.kids.len cap3] TE)
              have hxF := (put4_rd (b := w.heap.size) (.string ⟨#[63]⟩) (.int .i64 0) (.string ⟨#[]⟩) (.slice (some ⟨w10.heap.size, 0, none⟩) 3 3) HX10.out (fun b hb => by omega)).alloc (.cells #[.string ⟨x.op.toArray⟩, .int .i64 x.num, .string ⟨x.name.toArray⟩, .slice A x.kids.len cap, .string ⟨y.op.toArray⟩, .int .i64 y.num, .string ⟨y.name.toArray⟩, .slice A2 y.kids.len cap2, .string ⟨z.op.toArray⟩, .int .i64 z.num, .string ⟨z.name.toArray⟩, .slice A3 z.kids.len cap3] TE)
              have hyF := (put4_rd (b := w.heap.size) (.string ⟨#[63]⟩) (.int .i64 0) (.string ⟨#[]⟩) (.slice (some ⟨w10.heap.size, 0, none⟩) 3 3) HY10.out (fun b hb => by omega)).alloc (.cells #[.string ⟨x.op.toArray⟩, .int .i64 x.num, .string ⟨x.name.toArray⟩, .slice A x.kids.len cap, .string ⟨y.op.toArray⟩, .int .i64 y.num, .string ⟨y.name.toArray⟩, .slice A2 y.kids.len cap2, .string ⟨z.op.toArray⟩, .int .i64 z.num, .string ⟨z.name.toArray⟩, .slice A3 z.kids.len cap3] TE)
              have HF := hid (PPost.good HO1.out (grownBy_trans (put4_grown (b := w.heap.size) (.string ⟨#[63]⟩) (.int .i64 0) (.string ⟨#[]⟩) (.slice (some ⟨w10.heap.size, 0, none⟩) 3 3) HG10.out (Nat.le_refl _)) (grown_alloc _ _ (.cells #[.string ⟨x.op.toArray⟩, .int .i64 x.num, .string ⟨x.name.toArray⟩, .slice A x.kids.len cap, .string ⟨y.op.toArray⟩, .int .i64 y.num, .string ⟨y.name.toArray⟩, .slice A2 y.kids.len cap2, .string ⟨z.op.toArray⟩, .int .i64 z.num, .string ⟨z.name.toArray⟩, .slice A3 z.kids.len cap3] TE))) rfl
                (RdX.mk (op := [63]) (nm := []) (n := 0) (k := .cons x (.cons y (.cons z .nil))) (l := 3) (cap := 3) rfl (Nat.le_refl _) (RdL.three (by omega) kN (hxF.low (fun b hb => by omega)) (hyF.low (fun b hb => by omega)) (hzF.low (fun b hb => by have hb2 : wB.heap.size ≤ b := hb; omega)))) ((put4_pin _ _ _ _ HP10.out (by omega)).alloc _) (by omega) hy2 hy3)
              obtain ⟨e0, e1, e2, e3⟩ := kF.cells4
              clear kF kN hxF hyF hzF
              go_wp2_with fail
              refine bodyPost_ret (v := .agg #[.string ⟨#[63]⟩, .int .i64 0, .string ⟨#[]⟩, .slice (some ⟨w10.heap.size, 0, none⟩) 3 3]) (by simp [results, Tryz.results76, go_sem, e0, e1, e2, e3]) rfl ?_
              exact HF.out
    · have HO1 := hid (choice_same (s := s.data.toList) HOUT.out hq)
      have HF := hid (PPost.good HO1.out (put4_grown (b := w.heap.size) (.string ⟨x.op.toArray⟩) (.int .i64 x.num) (.string ⟨x.name.toArray⟩) (.slice A x.kids.len cap) HG7.out (Nat.le_refl _)) rfl ((put4_rd _ _ _ _ HXX.out (fun b hb => by omega)).low (fun b hb => by omega)) (put4_pin _ _ _ _ HPP.out (by omega)) (by omega) hm2 hm3)
      obtain ⟨q0, q1, q2, q3⟩ := HKX.out.cells4
      obtain ⟨r0, r1, r2, r3⟩ := HK0.out.cells4
      obtain ⟨g0, g1, g2, g3⟩ := HK0.out.free4
      by_cases hz : t1.kd = 0
      · have hne : (t1.text == [63]) = false := by
          have : t1.text ≠ [63] := fun h => hq ⟨hz, h⟩
          simpa using this
        rw [hz, show kindS 0 = [] from rfl] at c4
        clear hq hkp
        go_wp2_with fail
        refine bodyPost_ret (v := .agg #[.string ⟨x.op.toArray⟩, .int .i64 x.num, .string ⟨x.name.toArray⟩, .slice A x.kids.len cap]) (by simp [results, Tryz.results76, go_sem, r0, r1, r2, r3, g0, g1, g2, g3]) rfl ?_
        exact HF.out
      · have hk0 := kind_ne t1.kd hz
        generalize kindS t1.kd = ks1 at *
        clear hq hkp hz
        go_wp2_with fail
        refine bodyPost_ret (v := .agg #[.string ⟨x.op.toArray⟩, .int .i64 x.num, .string ⟨x.name.toArray⟩, .slice A x.kids.len cap]) (by simp [results, Tryz.results76, go_sem, r0, r1, r2, r3, g0, g1, g2, g3]) rfl ?_
        exact HF.out
end Go.Proofs.YtadmmmehphhecaaGreatDoor
